/-
  The algebra of sets: plain facts, and the walk of the law Algebra.
  Conditions: words below 2^64.
-/
import Derived.Test.YtfinldppcdkeoaaDoorWp
namespace Go.Proofs.YtfinldppcdkeoaaDoor
open Go.RowKit Bm
theorem filter_or_and {α : Type} (p q : α → Bool) (l : List α) : (l.filter fun x => p x || q x).length + (l.filter fun x => p x && q x).length = (l.filter p).length + (l.filter q).length := by
  induction l with
  | nil => rfl
  | cons a l ih =>
    cases hp : p a <;> cases hq : q a <;> simp [hp, hq] <;> omega
theorem filter_and_not {α : Type} (p q : α → Bool) (l : List α) : (l.filter p).length = (l.filter fun x => p x && !q x).length + (l.filter fun x => p x && q x).length := by
  induction l with
  | nil => rfl
  | cons a l ih =>
    cases hp : p a <;> cases hq : q a <;> simp [hp, hq] <;> omega
def orZ (ws us : List Nat) : List Nat := List.zipWith (fun x y => x ||| y) ws us
def andZ (ws us : List Nat) : List Nat := List.zipWith (fun x y => x &&& y) ws us
def notZ (ws us : List Nat) : List Nat := List.zipWith andNot ws us
theorem orZ_v {n : Nat} {ws us : List Nat} (hv : Valid n ws) (hu : Valid n us) : Valid n (orZ ws us) := zip_valid (g := fun x y => x || y) or_bits rfl rfl hv hu
theorem andZ_v {n : Nat} {ws us : List Nat} (hv : Valid n ws) (hu : Valid n us) : Valid n (andZ ws us) := zip_valid (g := fun x y => x && y) and_bits rfl rfl hv hu
theorem notZ_v {n : Nat} {ws us : List Nat} (hv : Valid n ws) (hu : Valid n us) : Valid n (notZ ws us) := zip_valid (g := fun x y => x && !y) andNot_bits rfl rfl hv hu
theorem orZ_w {ws us : List Nat} (hv : Wd ws) (hu : Wd us) : Wd (orZ ws us) := zip_wd or_lt hv hu
theorem andZ_w {ws us : List Nat} (hv : Wd ws) (hu : Wd us) : Wd (andZ ws us) := zip_wd and_lt hv hu
theorem notZ_w {ws us : List Nat} (hv : Wd ws) (hu : Wd us) : Wd (notZ ws us) := zip_wd andNot_lt hv hu
theorem orZ_b {n : Nat} {ws us : List Nat} (hv : Valid n ws) (hu : Valid n us) (i : Nat) : bitAt (orZ ws us) i = (bitAt ws i || bitAt us i) := bit_zip (g := fun x y => x || y) or_bits rfl (by rw [hv.len, hu.len]) i
theorem andZ_b {n : Nat} {ws us : List Nat} (hv : Valid n ws) (hu : Valid n us) (i : Nat) : bitAt (andZ ws us) i = (bitAt ws i && bitAt us i) := bit_zip (g := fun x y => x && y) and_bits rfl (by rw [hv.len, hu.len]) i
theorem notZ_b {n : Nat} {ws us : List Nat} (hv : Valid n ws) (hu : Valid n us) (i : Nat) : bitAt (notZ ws us) i = (bitAt ws i && !bitAt us i) := bit_zip (g := fun x y => x && !y) andNot_bits rfl (by rw [hv.len, hu.len]) i
theorem law1 {n : Nat} {a b c : List Nat} (ha : Valid n a) (hb : Valid n b) (hc : Valid n c) (wa : Wd a) (wb : Wd b) (wc : Wd c) : andZ a (orZ b c) = orZ (andZ a b) (andZ a c) :=
  (andZ_v ha (orZ_v hb hc)).ext (orZ_v (andZ_v ha hb) (andZ_v ha hc)) (andZ_w wa (orZ_w wb wc)) (orZ_w (andZ_w wa wb) (andZ_w wa wc)) fun i _ => by
    rw [andZ_b ha (orZ_v hb hc), orZ_b hb hc, orZ_b (andZ_v ha hb) (andZ_v ha hc), andZ_b ha hb, andZ_b ha hc, Bool.and_or_distrib_left]
theorem law2 {n : Nat} {a b c : List Nat} (ha : Valid n a) (hb : Valid n b) (hc : Valid n c) (wa : Wd a) (wb : Wd b) (wc : Wd c) : notZ a (orZ b c) = andZ (notZ a b) (notZ a c) :=
  (notZ_v ha (orZ_v hb hc)).ext (andZ_v (notZ_v ha hb) (notZ_v ha hc)) (notZ_w wa (orZ_w wb wc)) (andZ_w (notZ_w wa wb) (notZ_w wa wc)) fun i _ => by
    rw [notZ_b ha (orZ_v hb hc), orZ_b hb hc, andZ_b (notZ_v ha hb) (notZ_v ha hc), notZ_b ha hb, notZ_b ha hc]
    cases bitAt a i <;> cases bitAt b i <;> cases bitAt c i <;> rfl
theorem law3 {n : Nat} {a b : List Nat} (ha : Valid n a) (hb : Valid n b) : (mems n (orZ a b)).length + (mems n (andZ a b)).length = (mems n a).length + (mems n b).length := by
  unfold mems
  rw [show bitAt (orZ a b) = fun i => bitAt a i || bitAt b i from funext (orZ_b ha hb), show bitAt (andZ a b) = fun i => bitAt a i && bitAt b i from funext (andZ_b ha hb)]
  exact filter_or_and _ _ _
theorem law4 {n : Nat} {a b : List Nat} (ha : Valid n a) (hb : Valid n b) : (mems n a).length = (mems n (notZ a b)).length + (mems n (andZ a b)).length := by
  unfold mems
  rw [show bitAt (notZ a b) = fun i => bitAt a i && !bitAt b i from funext (notZ_b ha hb), show bitAt (andZ a b) = fun i => bitAt a i && bitAt b i from funext (andZ_b ha hb)]
  exact filter_and_not _ _ _

set_option maxRecDepth 100000 in
set_option maxHeartbeats 800000 in
theorem algebra_few (N N2 N3 : Int) (A B C : Option Addr) (c d e : Nat) (ws us vs : List Nat) (w : World) (hT : Tab w) (h : (decide (ws.length ≤ 20) && (decide (us.length ≤ 20) && decide (vs.length ≤ 20))) = false) :
    Calls Tryd.prog 7 #[.agg #[.int .i64 N, .slice A ws.length c], .agg #[.int .i64 N2, .slice B us.length d], .agg #[.int .i64 N3, .slice C vs.length e]] w (Ret w (.bool true)) := by
  have HAw := Lib.hid (fun w' (hx : Ex w w') => awake_c w' (hT.ex hx))
  have HF := Lib.hid (fun w' g (hB : Blk w' g 24 [.int .i64 N, .slice A ws.length c, .int .i64 N2, .slice B us.length d, .int .i64 N3, .slice C vs.length e]) => few_three w' g 24 N N2 N3 A B C ws.length c us.length d vs.length e hB)
  rw [h] at HF
  clear hT h
  generalize ws.length = m at *
  generalize us.length = m2 at *
  generalize vs.length = m3 at *
  go_enter Tryd.func7, Tryd.ntmps7
  go_wp2_with fail
  refine (HAw.out _ (by repeat (first | exact Ex.refl _ | apply Ex.ext | apply Ex.alloc))).mono ?_
  rintro e' w' ⟨rfl, y, rfl⟩
  go_wp2_with fail
  refine (HF.out _ _ (Blk.new' (ext _ y) rfl 24 [.int .i64 N, .slice A m c, .int .i64 N2, .slice B m2 d, .int .i64 N3, .slice C m3 e])).mono ?_
  rintro e' w' ⟨rfl, hx⟩
  obtain ⟨z, rfl⟩ := Ex.trans (Ex.alloc ⟨y, rfl⟩ _) hx
  clear hx
  go_wp2_with fail
  refine (Calls.up (W := ((w.alloc (.cells #[.int .i64 N, .slice A m c] 24)).alloc (.cells #[.int .i64 N2, .slice B m2 d] 24)).alloc (.cells #[.int .i64 N3, .slice C m3 e] 24)) ⟨_, rfl⟩ (HAw.out _ (by repeat (first | exact Ex.refl _ | apply Ex.ext | apply Ex.alloc)))).mono ?_
  rintro e' w' ⟨rfl, zz, rfl⟩
  go_wp2
  go_ret
  exact Ret.mk rfl (((((Ex.refl _).alloc _).alloc _).alloc _).ext _)

set_option maxRecDepth 100000 in
set_option maxHeartbeats 800000 in
theorem algebra_ab (N N2 N3 : Int) (A B C : Option Addr) (c d e : Nat) (ws us vs : List Nat) (w : World) (hT : Tab w) (hC : Cells w A (u64s ws)) (hD : Cells w B (u64s us)) (_hE : Cells w C (u64s vs)) (hw : Wd ws) (hu : Wd us) (_hvs : Wd vs) (h20 : (decide (ws.length ≤ 20) && (decide (us.length ≤ 20) && decide (vs.length ≤ 20))) = true) (h : (validB N ws && (validB N2 us && decide (N = N2))) = false) :
    Calls Tryd.prog 7 #[.agg #[.int .i64 N, .slice A ws.length c], .agg #[.int .i64 N2, .slice B us.length d], .agg #[.int .i64 N3, .slice C vs.length e]] w (Ret w (.bool true)) := by
  have HAw := Lib.hid (fun w' (hx : Ex w w') => awake_c w' (hT.ex hx))
  have HF := Lib.hid (fun w' g (hB : Blk w' g 24 [.int .i64 N, .slice A ws.length c, .int .i64 N2, .slice B us.length d, .int .i64 N3, .slice C vs.length e]) => few_three w' g 24 N N2 N3 A B C ws.length c us.length d vs.length e hB)
  rw [h20] at HF
  have H29 := Lib.hid (fun w' (hx : Ex w w') => comparable_c N N2 A B c d ws us w' (hC.ex hx) (hD.ex hx) hw hu)
  rw [h] at H29
  clear hT h hC hD hw hu h20
  generalize ws.length = m at *
  generalize us.length = m2 at *
  generalize vs.length = m3 at *
  go_enter Tryd.func7, Tryd.ntmps7
  go_wp2_with fail
  refine (HAw.out _ (by repeat (first | exact Ex.refl _ | apply Ex.ext | apply Ex.alloc))).mono ?_
  rintro e' w' ⟨rfl, y, rfl⟩
  go_wp2_with fail
  refine (HF.out _ _ (Blk.new' (ext _ y) rfl 24 [.int .i64 N, .slice A m c, .int .i64 N2, .slice B m2 d, .int .i64 N3, .slice C m3 e])).mono ?_
  rintro e' w' ⟨rfl, hx⟩
  obtain ⟨z, rfl⟩ := Ex.trans (Ex.alloc ⟨y, rfl⟩ _) hx
  clear hx
  go_wp2_with fail
  refine (Calls.up (W := ((w.alloc (.cells #[.int .i64 N, .slice A m c] 24)).alloc (.cells #[.int .i64 N2, .slice B m2 d] 24)).alloc (.cells #[.int .i64 N3, .slice C m3 e] 24)) ⟨_, rfl⟩ (H29.out _ (by repeat (first | exact Ex.refl _ | apply Ex.ext | apply Ex.alloc)))).mono ?_
  rintro e' w' ⟨rfl, zz, rfl⟩
  go_wp2_with fail
  refine (Calls.up (W := ((w.alloc (.cells #[.int .i64 N, .slice A m c] 24)).alloc (.cells #[.int .i64 N2, .slice B m2 d] 24)).alloc (.cells #[.int .i64 N3, .slice C m3 e] 24)) ⟨_, rfl⟩ (HAw.out _ (by repeat (first | exact Ex.refl _ | apply Ex.ext | apply Ex.alloc)))).mono ?_
  rintro e' w' ⟨rfl, zz, rfl⟩
  go_wp2
  go_ret
  exact Ret.mk rfl (((((Ex.refl _).alloc _).alloc _).alloc _).ext _)

set_option maxRecDepth 100000 in
set_option maxHeartbeats 800000 in
theorem algebra_bc (N N2 N3 : Int) (A B C : Option Addr) (c d e : Nat) (ws us vs : List Nat) (w : World) (hT : Tab w) (hC : Cells w A (u64s ws)) (hD : Cells w B (u64s us)) (hE : Cells w C (u64s vs)) (hw : Wd ws) (hu : Wd us) (hvs : Wd vs) (h20 : (decide (ws.length ≤ 20) && (decide (us.length ≤ 20) && decide (vs.length ≤ 20))) = true) (h : (validB N ws && (validB N2 us && decide (N = N2))) = true) (h2 : (validB N2 us && (validB N3 vs && decide (N2 = N3))) = false) :
    Calls Tryd.prog 7 #[.agg #[.int .i64 N, .slice A ws.length c], .agg #[.int .i64 N2, .slice B us.length d], .agg #[.int .i64 N3, .slice C vs.length e]] w (Ret w (.bool true)) := by
  have HAw := Lib.hid (fun w' (hx : Ex w w') => awake_c w' (hT.ex hx))
  have HF := Lib.hid (fun w' g (hB : Blk w' g 24 [.int .i64 N, .slice A ws.length c, .int .i64 N2, .slice B us.length d, .int .i64 N3, .slice C vs.length e]) => few_three w' g 24 N N2 N3 A B C ws.length c us.length d vs.length e hB)
  rw [h20] at HF
  have H29 := Lib.hid (fun w' (hx : Ex w w') => comparable_c N N2 A B c d ws us w' (hC.ex hx) (hD.ex hx) hw hu)
  rw [h] at H29
  have H29b := Lib.hid (fun w' (hx : Ex w w') => comparable_c N2 N3 B C d e us vs w' (hD.ex hx) (hE.ex hx) hu hvs)
  rw [h2] at H29b
  clear hT h h2 hC hD hE hw hu hvs h20
  generalize ws.length = m at *
  generalize us.length = m2 at *
  generalize vs.length = m3 at *
  go_enter Tryd.func7, Tryd.ntmps7
  go_wp2_with fail
  refine (HAw.out _ (by repeat (first | exact Ex.refl _ | apply Ex.ext | apply Ex.alloc))).mono ?_
  rintro e' w' ⟨rfl, y, rfl⟩
  go_wp2_with fail
  refine (HF.out _ _ (Blk.new' (ext _ y) rfl 24 [.int .i64 N, .slice A m c, .int .i64 N2, .slice B m2 d, .int .i64 N3, .slice C m3 e])).mono ?_
  rintro e' w' ⟨rfl, hx⟩
  obtain ⟨z, rfl⟩ := Ex.trans (Ex.alloc ⟨y, rfl⟩ _) hx
  clear hx
  go_wp2_with fail
  refine (Calls.up (W := ((w.alloc (.cells #[.int .i64 N, .slice A m c] 24)).alloc (.cells #[.int .i64 N2, .slice B m2 d] 24)).alloc (.cells #[.int .i64 N3, .slice C m3 e] 24)) ⟨_, rfl⟩ (H29.out _ (by repeat (first | exact Ex.refl _ | apply Ex.ext | apply Ex.alloc)))).mono ?_
  rintro e' w' ⟨rfl, zz, rfl⟩
  go_wp2_with fail
  refine (Calls.up (W := ((w.alloc (.cells #[.int .i64 N, .slice A m c] 24)).alloc (.cells #[.int .i64 N2, .slice B m2 d] 24)).alloc (.cells #[.int .i64 N3, .slice C m3 e] 24)) ⟨_, rfl⟩ (H29b.out _ (by repeat (first | exact Ex.refl _ | apply Ex.ext | apply Ex.alloc)))).mono ?_
  rintro e' w' ⟨rfl, zz, rfl⟩
  go_wp2_with fail
  refine (Calls.up (W := ((w.alloc (.cells #[.int .i64 N, .slice A m c] 24)).alloc (.cells #[.int .i64 N2, .slice B m2 d] 24)).alloc (.cells #[.int .i64 N3, .slice C m3 e] 24)) ⟨_, rfl⟩ (HAw.out _ (by repeat (first | exact Ex.refl _ | apply Ex.ext | apply Ex.alloc)))).mono ?_
  rintro e' w' ⟨rfl, zz, rfl⟩
  go_wp2
  go_ret
  exact Ret.mk rfl (((((Ex.refl _).alloc _).alloc _).alloc _).ext _)

set_option maxRecDepth 100000 in
set_option maxHeartbeats 6400000 in
theorem algebra_good (n : Nat) (A B C : Option Addr) (c d e : Nat) (sa sb sc : List Nat) (w : World) (hT : Tab w) (hC : Cells w A (u64s sa)) (hD : Cells w B (u64s sb)) (hE : Cells w C (u64s sc)) (wsa : Wd sa) (wsb : Wd sb) (wsc : Wd sc)
    (h20 : (decide (sa.length ≤ 20) && (decide (sb.length ≤ 20) && decide (sc.length ≤ 20))) = true) (vsa : Valid n sa) (vsb : Valid n sb) (vsc : Valid n sc) :
    Calls Tryd.prog 7 #[.agg #[.int .i64 n, .slice A sa.length c], .agg #[.int .i64 n, .slice B sb.length d], .agg #[.int .i64 n, .slice C sc.length e]] w (Ret w (.bool true)) := by
  have HAw := Lib.hid (fun w' (hx : Ex w w') => awake_c w' (hT.ex hx))
  have HF := Lib.hid (fun w' g (hB : Blk w' g 24 [.int .i64 n, .slice A sa.length c, .int .i64 n, .slice B sb.length d, .int .i64 n, .slice C sc.length e]) => few_three w' g 24 n n n A B C sa.length c sb.length d sc.length e hB)
  rw [h20] at HF
  have y1 := (validB_iff n sa).2 ⟨n, rfl, vsa⟩
  have y2 := (validB_iff n sb).2 ⟨n, rfl, vsb⟩
  have y3 := (validB_iff n sc).2 ⟨n, rfl, vsc⟩
  have H29 := Lib.hid (fun w' (hx : Ex w w') => comparable_c n n A B c d sa sb w' (hC.ex hx) (hD.ex hx) wsa wsb)
  rw [y1, y2, decide_eq_true (rfl : (n : Int) = n)] at H29
  have H29b := Lib.hid (fun w' (hx : Ex w w') => comparable_c n n B C d e sb sc w' (hD.ex hx) (hE.ex hx) wsb wsc)
  rw [y2, y3, decide_eq_true (rfl : (n : Int) = n)] at H29b
  have L1 := law1 vsa vsb vsc wsa wsb wsc
  have L2 := law2 vsa vsb vsc wsa wsb wsc
  have L3 := law3 vsa vsb
  have L4 := law4 vsa vsb
  have hnle := vsa.le
  have m20 : ∀ l : List Nat, Valid n l → l.length ≤ 20 := fun l h => by have := h.len; have := h.le; omega
  have Hxu1 := Lib.hid (fun w' (hx : Ex w w') => union_ok n B C d e sb sc w' (hD.ex hx) (hE.ex hx) wsb wsc vsb vsc)
  have vu1 := orZ_v vsb vsc
  have wu1 := orZ_w wsb wsc
  obtain ⟨u1, eu1⟩ : ∃ l, l = orZ sb sc := ⟨_, rfl⟩
  rw [← eu1] at vu1 wu1
  have eu1' : List.zipWith (fun x y => x ||| y) sb sc = u1 := eu1.symm
  rw [eu1'] at Hxu1
  have Hxi1 := Lib.hid (fun w' (hx : Ex w w') gu1 (hu1 : Blk w' gu1 54 (u64s u1)) => inter_ok n A (some ⟨gu1, 0, none⟩) c u1.length sa u1 w' (hC.ex hx) hu1.cells wsa wu1 vsa vu1)
  have vi1 := andZ_v vsa vu1
  have wi1 := andZ_w wsa wu1
  obtain ⟨i1, ei1⟩ : ∃ l, l = andZ sa u1 := ⟨_, rfl⟩
  rw [← ei1] at vi1 wi1
  have ei1' : List.zipWith (fun x y => x &&& y) sa u1 = i1 := ei1.symm
  rw [ei1'] at Hxi1
  have Hxab := Lib.hid (fun w' (hx : Ex w w') => inter_ok n A B c d sa sb w' (hC.ex hx) (hD.ex hx) wsa wsb vsa vsb)
  have vab := andZ_v vsa vsb
  have wab := andZ_w wsa wsb
  obtain ⟨ab, eab⟩ : ∃ l, l = andZ sa sb := ⟨_, rfl⟩
  rw [← eab] at vab wab
  have eab' : List.zipWith (fun x y => x &&& y) sa sb = ab := eab.symm
  rw [eab'] at Hxab
  have Hxac := Lib.hid (fun w' (hx : Ex w w') => inter_ok n A C c e sa sc w' (hC.ex hx) (hE.ex hx) wsa wsc vsa vsc)
  have vac := andZ_v vsa vsc
  have wac := andZ_w wsa wsc
  obtain ⟨ac, eac⟩ : ∃ l, l = andZ sa sc := ⟨_, rfl⟩
  rw [← eac] at vac wac
  have eac' : List.zipWith (fun x y => x &&& y) sa sc = ac := eac.symm
  rw [eac'] at Hxac
  have Hxu2 := Lib.hid (fun w' (hx : Ex w w') gab (hab : Blk w' gab 54 (u64s ab)) gac (hac : Blk w' gac 54 (u64s ac)) => union_ok n (some ⟨gab, 0, none⟩) (some ⟨gac, 0, none⟩) ab.length ac.length ab ac w' hab.cells hac.cells wab wac vab vac)
  have vu2 := orZ_v vab vac
  have wu2 := orZ_w wab wac
  obtain ⟨u2, eu2⟩ : ∃ l, l = orZ ab ac := ⟨_, rfl⟩
  rw [← eu2] at vu2 wu2
  have eu2' : List.zipWith (fun x y => x ||| y) ab ac = u2 := eu2.symm
  rw [eu2'] at Hxu2
  have Hxm1 := Lib.hid (fun w' (hx : Ex w w') gu1 (hu1 : Blk w' gu1 54 (u64s u1)) => minus_ok n A (some ⟨gu1, 0, none⟩) c u1.length sa u1 w' (hC.ex hx) hu1.cells wsa wu1 vsa vu1)
  have vm1 := notZ_v vsa vu1
  have wm1 := notZ_w wsa wu1
  obtain ⟨m1, em1⟩ : ∃ l, l = notZ sa u1 := ⟨_, rfl⟩
  rw [← em1] at vm1 wm1
  have em1' : List.zipWith andNot sa u1 = m1 := em1.symm
  rw [em1'] at Hxm1
  have Hxd1 := Lib.hid (fun w' (hx : Ex w w') => minus_ok n A B c d sa sb w' (hC.ex hx) (hD.ex hx) wsa wsb vsa vsb)
  have vd1 := notZ_v vsa vsb
  have wd1 := notZ_w wsa wsb
  obtain ⟨d1, ed1⟩ : ∃ l, l = notZ sa sb := ⟨_, rfl⟩
  rw [← ed1] at vd1 wd1
  have ed1' : List.zipWith andNot sa sb = d1 := ed1.symm
  rw [ed1'] at Hxd1
  have Hxd2 := Lib.hid (fun w' (hx : Ex w w') => minus_ok n A C c e sa sc w' (hC.ex hx) (hE.ex hx) wsa wsc vsa vsc)
  have vd2 := notZ_v vsa vsc
  have wd2 := notZ_w wsa wsc
  obtain ⟨d2, ed2⟩ : ∃ l, l = notZ sa sc := ⟨_, rfl⟩
  rw [← ed2] at vd2 wd2
  have ed2' : List.zipWith andNot sa sc = d2 := ed2.symm
  rw [ed2'] at Hxd2
  have Hxi2 := Lib.hid (fun w' (hx : Ex w w') gd1 (hd1 : Blk w' gd1 54 (u64s d1)) gd2 (hd2 : Blk w' gd2 54 (u64s d2)) => inter_ok n (some ⟨gd1, 0, none⟩) (some ⟨gd2, 0, none⟩) d1.length d2.length d1 d2 w' hd1.cells hd2.cells wd1 wd2 vd1 vd2)
  have vi2 := andZ_v vd1 vd2
  have wi2 := andZ_w wd1 wd2
  obtain ⟨i2, ei2⟩ : ∃ l, l = andZ d1 d2 := ⟨_, rfl⟩
  rw [← ei2] at vi2 wi2
  have ei2' : List.zipWith (fun x y => x &&& y) d1 d2 = i2 := ei2.symm
  rw [ei2'] at Hxi2
  have Hxu3 := Lib.hid (fun w' (hx : Ex w w') => union_ok n A B c d sa sb w' (hC.ex hx) (hD.ex hx) wsa wsb vsa vsb)
  have vu3 := orZ_v vsa vsb
  have wu3 := orZ_w wsa wsb
  obtain ⟨u3, eu3⟩ : ∃ l, l = orZ sa sb := ⟨_, rfl⟩
  rw [← eu3] at vu3 wu3
  have eu3' : List.zipWith (fun x y => x ||| y) sa sb = u3 := eu3.symm
  rw [eu3'] at Hxu3
  rw [← eu1, ← ei1, ← eab, ← eac, ← eu2] at L1
  rw [← eu1, ← em1, ← ed1, ← ed2, ← ei2] at L2
  rw [← eu3, ← eab] at L3
  rw [← ed1, ← eab] at L4
  have S1 := Lib.hid (fun w' g h (hB : Blk w' g 54 (u64s i1)) (hB2 : Blk w' h 54 (u64s u2)) => same_c n n (some ⟨g, 0, none⟩) (some ⟨h, 0, none⟩) i1.length u2.length i1 u2 w' hB.cells hB2.cells (m20 _ vi1))
  rw [decide_eq_true (rfl : (n : Int) = n), decide_eq_true L1] at S1
  have S2 := Lib.hid (fun w' g h (hB : Blk w' g 54 (u64s m1)) (hB2 : Blk w' h 54 (u64s i2)) => same_c n n (some ⟨g, 0, none⟩) (some ⟨h, 0, none⟩) m1.length i2.length m1 i2 w' hB.cells hB2.cells (m20 _ vm1))
  rw [decide_eq_true (rfl : (n : Int) = n), decide_eq_true L2] at S2
  have Cu3 := Lib.hid (fun w' g (hB : Blk w' g 54 (u64s u3)) => bCount_c n (some ⟨g, 0, none⟩) u3.length u3 w' hB.cells wu3)
  rw [cntB_ok vu3] at Cu3
  have Cab := Lib.hid (fun w' g (hB : Blk w' g 54 (u64s ab)) => bCount_c n (some ⟨g, 0, none⟩) ab.length ab w' hB.cells wab)
  rw [cntB_ok vab] at Cab
  have Cd1 := Lib.hid (fun w' g (hB : Blk w' g 54 (u64s d1)) => bCount_c n (some ⟨g, 0, none⟩) d1.length d1 w' hB.cells wd1)
  rw [cntB_ok vd1] at Cd1
  have Csa := Lib.hid (fun w' (hx : Ex w w') => bCount_c n A c sa w' (hC.ex hx) wsa)
  rw [cntB_ok vsa] at Csa
  have Csb := Lib.hid (fun w' (hx : Ex w w') => bCount_c n B d sb w' (hD.ex hx) wsb)
  rw [cntB_ok vsb] at Csb
  have k1 := mems_le n u3
  have k2 := mems_le n sa
  have k3 := mems_le n sb
  have k4 := mems_le n ab
  have k5 := mems_le n d1
  generalize (mems n u3).length = cu at *
  generalize (mems n sa).length = ca at *
  generalize (mems n sb).length = cb at *
  generalize (mems n ab).length = ci at *
  generalize (mems n d1).length = cd at *
  have hs1 : IntKind.i64.wrap ((ca : Int) + (cb : Int)) = (ca : Int) + (cb : Int) := by rw [IntKind.wrap_i64]; omega
  have hs2 : IntKind.i64.wrap ((ca : Int) + (cb : Int) - (ci : Int)) = (cu : Int) := by rw [IntKind.wrap_i64]; omega
  have hs3 : IntKind.i64.wrap ((cd : Int) + (ci : Int)) = (ca : Int) := by rw [IntKind.wrap_i64]; omega
  have hq1 : ((cu : Int) == (cu : Int)) = true := by simp
  have hq2 : ((ca : Int) == (ca : Int)) = true := by simp
  clear hT hC hD hE wsa wsb wsc h20 vsa vsb vsc y1 y2 y3 L1 L2 L3 L4 hnle m20 k1 k2 k3 k4 k5 vu1 wu1 eu1 eu1' vi1 wi1 ei1 ei1' vab wab eab eab' vac wac eac eac' vu2 wu2 eu2 eu2' vm1 wm1 em1 em1' vd1 wd1 ed1 ed1' vd2 wd2 ed2 ed2' vi2 wi2 ei2 ei2' vu3 wu3 eu3 eu3'
  generalize sa.length = m at *
  generalize sb.length = m2 at *
  generalize sc.length = m3 at *
  go_enter Tryd.func7, Tryd.ntmps7
  go_wp2_with fail
  refine (HAw.out _ (by repeat (first | exact Ex.refl _ | apply Ex.ext | apply Ex.alloc))).mono ?_
  rintro e' w' ⟨rfl, y, rfl⟩
  go_wp2_with fail
  refine (HF.out _ _ (Blk.new' (ext _ y) rfl 24 [.int .i64 n, .slice A m c, .int .i64 n, .slice B m2 d, .int .i64 n, .slice C m3 e])).mono ?_
  rintro e' w' ⟨rfl, hx⟩
  obtain ⟨z, rfl⟩ := Ex.trans (Ex.alloc ⟨y, rfl⟩ _) hx
  clear hx
  go_wp2_with fail
  refine (Calls.up (W := ((w.alloc (.cells #[.int .i64 n, .slice A m c] 24)).alloc (.cells #[.int .i64 n, .slice B m2 d] 24)).alloc (.cells #[.int .i64 n, .slice C m3 e] 24)) ⟨_, rfl⟩ (H29.out _ (by repeat (first | exact Ex.refl _ | apply Ex.ext | apply Ex.alloc)))).mono ?_
  rintro e' w' ⟨rfl, zz, rfl⟩
  go_wp2_with fail
  refine (Calls.up (W := ((w.alloc (.cells #[.int .i64 n, .slice A m c] 24)).alloc (.cells #[.int .i64 n, .slice B m2 d] 24)).alloc (.cells #[.int .i64 n, .slice C m3 e] 24)) ⟨_, rfl⟩ (H29b.out _ (by repeat (first | exact Ex.refl _ | apply Ex.ext | apply Ex.alloc)))).mono ?_
  rintro e' w' ⟨rfl, zz, rfl⟩
  have hEx : Ex w (ext (((w.alloc (.cells #[.int .i64 n, .slice A m c] 24)).alloc (.cells #[.int .i64 n, .slice B m2 d] 24)).alloc (.cells #[.int .i64 n, .slice C m3 e] 24)) zz) := ((((Ex.refl w).alloc _).alloc _).alloc _).ext zz
  have qsa := ((((Blk.new w 24 [.int .i64 n, .slice A m c]).alloc (.cells #[.int .i64 n, .slice B m2 d] 24)).alloc (.cells #[.int .i64 n, .slice C m3 e] 24)).ex ⟨zz, rfl⟩)
  have qsb := (((Blk.new' (w.alloc (.cells #[.int .i64 n, .slice A m c] 24)) (g := w.heap.size + 1) (by simp) 24 [.int .i64 n, .slice B m2 d]).alloc (.cells #[.int .i64 n, .slice C m3 e] 24)).ex ⟨zz, rfl⟩)
  have qsc := ((Blk.new' ((w.alloc (.cells #[.int .i64 n, .slice A m c] 24)).alloc (.cells #[.int .i64 n, .slice B m2 d] 24)) (g := w.heap.size + 1 + 1) (by simp) 24 [.int .i64 n, .slice C m3 e]).ex ⟨zz, rfl⟩)
  go_wp2_with fail
  generalize hV0 : ext (((w.alloc (.cells #[.int .i64 n, .slice A m c] 24)).alloc (.cells #[.int .i64 n, .slice B m2 d] 24)).alloc (.cells #[.int .i64 n, .slice C m3 e] 24)) zz = V0 at *
  clear hV0
  refine (Hxu1.out _ hEx ).mono ?_
  rintro e' w1 ⟨gu1, rfl, -, hu1, hx⟩
  have hEx' := hEx.trans hx
  have qsa' := qsa.ex hx
  have qsb' := qsb.ex hx
  have qsc' := qsc.ex hx
  clear hEx qsa qsb qsc hx
  have hEx := hEx'.alloc (.cells #[.int .i64 n, .slice (some ⟨gu1, 0, none⟩) u1.length u1.length] 24)
  have qsa := qsa'.alloc (.cells #[.int .i64 n, .slice (some ⟨gu1, 0, none⟩) u1.length u1.length] 24)
  have qsb := qsb'.alloc (.cells #[.int .i64 n, .slice (some ⟨gu1, 0, none⟩) u1.length u1.length] 24)
  have qsc := qsc'.alloc (.cells #[.int .i64 n, .slice (some ⟨gu1, 0, none⟩) u1.length u1.length] 24)
  have hu1' := hu1
  clear hu1
  have hu1 := hu1'.alloc (.cells #[.int .i64 n, .slice (some ⟨gu1, 0, none⟩) u1.length u1.length] 24)
  have qu1 := Blk.new w1 24 [.int .i64 n, .slice (some ⟨gu1, 0, none⟩) u1.length u1.length]
  have lsa := qsa'.lt
  have psa := qsa'.cell 0
  have osa := qsa'.cell 1
  simp only [List.getElem?_cons_zero, List.getElem?_cons_succ] at psa osa
  have X := Lib.hid (And.intro hEx ( And.intro qsa ( And.intro qsb ( And.intro qsc ( And.intro hu1 (qu1))))))
  clear hEx qsa qsb qsc hu1 qu1 hEx' qsa' qsb' qsc' hu1'
  go_wp2_with fail
  generalize hVV : w1.alloc (.cells #[.int .i64 n, .slice (some ⟨gu1, 0, none⟩) u1.length u1.length] 24) = V1 at *
  generalize w1.heap.size = bu1 at *
  clear hVV
  clear lsa psa osa
  obtain ⟨hEx, qsa, qsb, qsc, hu1, qu1⟩ := X.out
  clear X
  refine (Hxi1.out _ hEx _ hu1).mono ?_
  rintro e' w2 ⟨gi1, rfl, -, hi1, hx⟩
  have hEx' := hEx.trans hx
  have qsa' := qsa.ex hx
  have qsb' := qsb.ex hx
  have qsc' := qsc.ex hx
  have hu1' := hu1.ex hx
  have qu1' := qu1.ex hx
  clear hEx qsa qsb qsc hu1 qu1 hx
  have hEx := hEx'.alloc (.cells #[.int .i64 n, .slice (some ⟨gi1, 0, none⟩) i1.length i1.length] 24)
  have qsa := qsa'.alloc (.cells #[.int .i64 n, .slice (some ⟨gi1, 0, none⟩) i1.length i1.length] 24)
  have qsb := qsb'.alloc (.cells #[.int .i64 n, .slice (some ⟨gi1, 0, none⟩) i1.length i1.length] 24)
  have qsc := qsc'.alloc (.cells #[.int .i64 n, .slice (some ⟨gi1, 0, none⟩) i1.length i1.length] 24)
  have hu1 := hu1'.alloc (.cells #[.int .i64 n, .slice (some ⟨gi1, 0, none⟩) i1.length i1.length] 24)
  have qu1 := qu1'.alloc (.cells #[.int .i64 n, .slice (some ⟨gi1, 0, none⟩) i1.length i1.length] 24)
  have hi1' := hi1
  clear hi1
  have hi1 := hi1'.alloc (.cells #[.int .i64 n, .slice (some ⟨gi1, 0, none⟩) i1.length i1.length] 24)
  have qi1 := Blk.new w2 24 [.int .i64 n, .slice (some ⟨gi1, 0, none⟩) i1.length i1.length]
  have lsa := qsa'.lt
  have psa := qsa'.cell 0
  have osa := qsa'.cell 1
  have lsb := qsb'.lt
  have psb := qsb'.cell 0
  have osb := qsb'.cell 1
  simp only [List.getElem?_cons_zero, List.getElem?_cons_succ] at psa osa psb osb
  have X := Lib.hid (And.intro hEx ( And.intro qsa ( And.intro qsb ( And.intro qsc ( And.intro hu1 ( And.intro qu1 ( And.intro hi1 (qi1))))))))
  clear hEx qsa qsb qsc hu1 qu1 hi1 qi1 hEx' qsa' qsb' qsc' hu1' qu1' hi1'
  go_wp2_with fail
  generalize hVV : w2.alloc (.cells #[.int .i64 n, .slice (some ⟨gi1, 0, none⟩) i1.length i1.length] 24) = V2 at *
  generalize w2.heap.size = bi1 at *
  clear hVV
  clear lsa psa osa lsb psb osb
  obtain ⟨hEx, qsa, qsb, qsc, hu1, qu1, hi1, qi1⟩ := X.out
  clear X
  refine (Hxab.out _ hEx ).mono ?_
  rintro e' w3 ⟨gab, rfl, -, hab, hx⟩
  have hEx' := hEx.trans hx
  have qsa' := qsa.ex hx
  have qsb' := qsb.ex hx
  have qsc' := qsc.ex hx
  have hu1' := hu1.ex hx
  have qu1' := qu1.ex hx
  have hi1' := hi1.ex hx
  have qi1' := qi1.ex hx
  clear hEx qsa qsb qsc hu1 qu1 hi1 qi1 hx
  have hEx := hEx'.alloc (.cells #[.int .i64 n, .slice (some ⟨gab, 0, none⟩) ab.length ab.length] 24)
  have qsa := qsa'.alloc (.cells #[.int .i64 n, .slice (some ⟨gab, 0, none⟩) ab.length ab.length] 24)
  have qsb := qsb'.alloc (.cells #[.int .i64 n, .slice (some ⟨gab, 0, none⟩) ab.length ab.length] 24)
  have qsc := qsc'.alloc (.cells #[.int .i64 n, .slice (some ⟨gab, 0, none⟩) ab.length ab.length] 24)
  have hu1 := hu1'.alloc (.cells #[.int .i64 n, .slice (some ⟨gab, 0, none⟩) ab.length ab.length] 24)
  have qu1 := qu1'.alloc (.cells #[.int .i64 n, .slice (some ⟨gab, 0, none⟩) ab.length ab.length] 24)
  have hi1 := hi1'.alloc (.cells #[.int .i64 n, .slice (some ⟨gab, 0, none⟩) ab.length ab.length] 24)
  have qi1 := qi1'.alloc (.cells #[.int .i64 n, .slice (some ⟨gab, 0, none⟩) ab.length ab.length] 24)
  have hab' := hab
  clear hab
  have hab := hab'.alloc (.cells #[.int .i64 n, .slice (some ⟨gab, 0, none⟩) ab.length ab.length] 24)
  have qab := Blk.new w3 24 [.int .i64 n, .slice (some ⟨gab, 0, none⟩) ab.length ab.length]
  have lsa := qsa'.lt
  have psa := qsa'.cell 0
  have osa := qsa'.cell 1
  have lsc := qsc'.lt
  have psc := qsc'.cell 0
  have osc := qsc'.cell 1
  simp only [List.getElem?_cons_zero, List.getElem?_cons_succ] at psa osa psc osc
  have X := Lib.hid (And.intro hEx ( And.intro qsa ( And.intro qsb ( And.intro qsc ( And.intro hu1 ( And.intro qu1 ( And.intro hi1 ( And.intro qi1 ( And.intro hab (qab))))))))))
  clear hEx qsa qsb qsc hu1 qu1 hi1 qi1 hab qab hEx' qsa' qsb' qsc' hu1' qu1' hi1' qi1' hab'
  go_wp2_with fail
  generalize hVV : w3.alloc (.cells #[.int .i64 n, .slice (some ⟨gab, 0, none⟩) ab.length ab.length] 24) = V3 at *
  generalize w3.heap.size = bab at *
  clear hVV
  clear lsa psa osa lsc psc osc
  obtain ⟨hEx, qsa, qsb, qsc, hu1, qu1, hi1, qi1, hab, qab⟩ := X.out
  clear X
  refine (Hxac.out _ hEx ).mono ?_
  rintro e' w4 ⟨gac, rfl, -, hac, hx⟩
  have hEx' := hEx.trans hx
  have qsa' := qsa.ex hx
  have qsb' := qsb.ex hx
  have qsc' := qsc.ex hx
  have hu1' := hu1.ex hx
  have qu1' := qu1.ex hx
  have hi1' := hi1.ex hx
  have qi1' := qi1.ex hx
  have hab' := hab.ex hx
  have qab' := qab.ex hx
  clear hEx qsa qsb qsc hu1 qu1 hi1 qi1 hab qab hx
  have hEx := hEx'.alloc (.cells #[.int .i64 n, .slice (some ⟨gac, 0, none⟩) ac.length ac.length] 24)
  have qsa := qsa'.alloc (.cells #[.int .i64 n, .slice (some ⟨gac, 0, none⟩) ac.length ac.length] 24)
  have qsb := qsb'.alloc (.cells #[.int .i64 n, .slice (some ⟨gac, 0, none⟩) ac.length ac.length] 24)
  have qsc := qsc'.alloc (.cells #[.int .i64 n, .slice (some ⟨gac, 0, none⟩) ac.length ac.length] 24)
  have hu1 := hu1'.alloc (.cells #[.int .i64 n, .slice (some ⟨gac, 0, none⟩) ac.length ac.length] 24)
  have qu1 := qu1'.alloc (.cells #[.int .i64 n, .slice (some ⟨gac, 0, none⟩) ac.length ac.length] 24)
  have hi1 := hi1'.alloc (.cells #[.int .i64 n, .slice (some ⟨gac, 0, none⟩) ac.length ac.length] 24)
  have qi1 := qi1'.alloc (.cells #[.int .i64 n, .slice (some ⟨gac, 0, none⟩) ac.length ac.length] 24)
  have hab := hab'.alloc (.cells #[.int .i64 n, .slice (some ⟨gac, 0, none⟩) ac.length ac.length] 24)
  have qab := qab'.alloc (.cells #[.int .i64 n, .slice (some ⟨gac, 0, none⟩) ac.length ac.length] 24)
  have hac' := hac
  clear hac
  have hac := hac'.alloc (.cells #[.int .i64 n, .slice (some ⟨gac, 0, none⟩) ac.length ac.length] 24)
  have qac := Blk.new w4 24 [.int .i64 n, .slice (some ⟨gac, 0, none⟩) ac.length ac.length]
  have lab := qab'.lt
  have pab := qab'.cell 0
  have oab := qab'.cell 1
  simp only [List.getElem?_cons_zero, List.getElem?_cons_succ] at pab oab
  have X := Lib.hid (And.intro hEx ( And.intro qsa ( And.intro qsb ( And.intro qsc ( And.intro hu1 ( And.intro qu1 ( And.intro hi1 ( And.intro qi1 ( And.intro hab ( And.intro qab ( And.intro hac (qac))))))))))))
  clear hEx qsa qsb qsc hu1 qu1 hi1 qi1 hab qab hac qac hEx' qsa' qsb' qsc' hu1' qu1' hi1' qi1' hab' qab' hac'
  go_wp2_with fail
  generalize hVV : w4.alloc (.cells #[.int .i64 n, .slice (some ⟨gac, 0, none⟩) ac.length ac.length] 24) = V4 at *
  generalize w4.heap.size = bac at *
  clear hVV
  clear lab pab oab
  obtain ⟨hEx, qsa, qsb, qsc, hu1, qu1, hi1, qi1, hab, qab, hac, qac⟩ := X.out
  clear X
  refine (Hxu2.out _ hEx _ hab _ hac).mono ?_
  rintro e' w5 ⟨gu2, rfl, -, hu2, hx⟩
  have hEx' := hEx.trans hx
  have qsa' := qsa.ex hx
  have qsb' := qsb.ex hx
  have qsc' := qsc.ex hx
  have hu1' := hu1.ex hx
  have qu1' := qu1.ex hx
  have hi1' := hi1.ex hx
  have qi1' := qi1.ex hx
  have hab' := hab.ex hx
  have qab' := qab.ex hx
  have hac' := hac.ex hx
  have qac' := qac.ex hx
  clear hEx qsa qsb qsc hu1 qu1 hi1 qi1 hab qab hac qac hx
  have hEx := hEx'.alloc (.cells #[.int .i64 n, .slice (some ⟨gu2, 0, none⟩) u2.length u2.length] 24)
  have qsa := qsa'.alloc (.cells #[.int .i64 n, .slice (some ⟨gu2, 0, none⟩) u2.length u2.length] 24)
  have qsb := qsb'.alloc (.cells #[.int .i64 n, .slice (some ⟨gu2, 0, none⟩) u2.length u2.length] 24)
  have qsc := qsc'.alloc (.cells #[.int .i64 n, .slice (some ⟨gu2, 0, none⟩) u2.length u2.length] 24)
  have hu1 := hu1'.alloc (.cells #[.int .i64 n, .slice (some ⟨gu2, 0, none⟩) u2.length u2.length] 24)
  have qu1 := qu1'.alloc (.cells #[.int .i64 n, .slice (some ⟨gu2, 0, none⟩) u2.length u2.length] 24)
  have hi1 := hi1'.alloc (.cells #[.int .i64 n, .slice (some ⟨gu2, 0, none⟩) u2.length u2.length] 24)
  have qi1 := qi1'.alloc (.cells #[.int .i64 n, .slice (some ⟨gu2, 0, none⟩) u2.length u2.length] 24)
  have hab := hab'.alloc (.cells #[.int .i64 n, .slice (some ⟨gu2, 0, none⟩) u2.length u2.length] 24)
  have qab := qab'.alloc (.cells #[.int .i64 n, .slice (some ⟨gu2, 0, none⟩) u2.length u2.length] 24)
  have hac := hac'.alloc (.cells #[.int .i64 n, .slice (some ⟨gu2, 0, none⟩) u2.length u2.length] 24)
  have qac := qac'.alloc (.cells #[.int .i64 n, .slice (some ⟨gu2, 0, none⟩) u2.length u2.length] 24)
  have hu2' := hu2
  clear hu2
  have hu2 := hu2'.alloc (.cells #[.int .i64 n, .slice (some ⟨gu2, 0, none⟩) u2.length u2.length] 24)
  have qu2 := Blk.new w5 24 [.int .i64 n, .slice (some ⟨gu2, 0, none⟩) u2.length u2.length]
  have li1 := qi1'.lt
  have pi1 := qi1'.cell 0
  have oi1 := qi1'.cell 1
  simp only [List.getElem?_cons_zero, List.getElem?_cons_succ] at pi1 oi1
  have X := Lib.hid (And.intro hEx ( And.intro qsa ( And.intro qsb ( And.intro qsc ( And.intro hu1 ( And.intro qu1 ( And.intro hi1 ( And.intro qi1 ( And.intro hab ( And.intro qab ( And.intro hac ( And.intro qac ( And.intro hu2 (qu2))))))))))))))
  clear hEx qsa qsb qsc hu1 qu1 hi1 qi1 hab qab hac qac hu2 qu2 hEx' qsa' qsb' qsc' hu1' qu1' hi1' qi1' hab' qab' hac' qac' hu2'
  go_wp2_with fail
  generalize hVV : w5.alloc (.cells #[.int .i64 n, .slice (some ⟨gu2, 0, none⟩) u2.length u2.length] 24) = V5 at *
  generalize w5.heap.size = bu2 at *
  clear hVV
  clear li1 pi1 oi1
  obtain ⟨hEx, qsa, qsb, qsc, hu1, qu1, hi1, qi1, hab, qab, hac, qac, hu2, qu2⟩ := X.out
  clear X
  refine (S1.out _ _ _ hi1 hu2).mono ?_
  rintro e' w5r ⟨rfl, hx⟩
  have hEx' := hEx.trans hx
  have qsa' := qsa.ex hx
  have qsb' := qsb.ex hx
  have qsc' := qsc.ex hx
  have hu1' := hu1.ex hx
  have qu1' := qu1.ex hx
  have hi1' := hi1.ex hx
  have qi1' := qi1.ex hx
  have hab' := hab.ex hx
  have qab' := qab.ex hx
  have hac' := hac.ex hx
  have qac' := qac.ex hx
  have hu2' := hu2.ex hx
  have qu2' := qu2.ex hx
  clear hEx qsa qsb qsc hu1 qu1 hi1 qi1 hab qab hac qac hu2 qu2 hx
  have hEx := hEx'
  clear hEx'
  have qsa := qsa'
  clear qsa'
  have qsb := qsb'
  clear qsb'
  have qsc := qsc'
  clear qsc'
  have hu1 := hu1'
  clear hu1'
  have qu1 := qu1'
  clear qu1'
  have hi1 := hi1'
  clear hi1'
  have qi1 := qi1'
  clear qi1'
  have hab := hab'
  clear hab'
  have qab := qab'
  clear qab'
  have hac := hac'
  clear hac'
  have qac := qac'
  clear qac'
  have hu2 := hu2'
  clear hu2'
  have qu2 := qu2'
  clear qu2'
  have lsa := qsa.lt
  have psa := qsa.cell 0
  have osa := qsa.cell 1
  have lu1 := qu1.lt
  have pu1 := qu1.cell 0
  have ou1 := qu1.cell 1
  simp only [List.getElem?_cons_zero, List.getElem?_cons_succ] at psa osa pu1 ou1
  have X := Lib.hid (And.intro hEx ( And.intro qsa ( And.intro qsb ( And.intro qsc ( And.intro hu1 ( And.intro qu1 ( And.intro hi1 ( And.intro qi1 ( And.intro hab ( And.intro qab ( And.intro hac ( And.intro qac ( And.intro hu2 (qu2))))))))))))))
  clear hEx qsa qsb qsc hu1 qu1 hi1 qi1 hab qab hac qac hu2 qu2
  go_wp2_with fail
  obtain ⟨hEx, qsa, qsb, qsc, hu1, qu1, hi1, qi1, hab, qab, hac, qac, hu2, qu2⟩ := X.out
  clear X
  clear lsa psa osa lu1 pu1 ou1
  refine (Hxm1.out _ hEx _ hu1).mono ?_
  rintro e' w6 ⟨gm1, rfl, -, hm1, hx⟩
  have hEx' := hEx.trans hx
  have qsa' := qsa.ex hx
  have qsb' := qsb.ex hx
  have qsc' := qsc.ex hx
  have hu1' := hu1.ex hx
  have qu1' := qu1.ex hx
  have hi1' := hi1.ex hx
  have qi1' := qi1.ex hx
  have hab' := hab.ex hx
  have qab' := qab.ex hx
  have hac' := hac.ex hx
  have qac' := qac.ex hx
  have hu2' := hu2.ex hx
  have qu2' := qu2.ex hx
  clear hEx qsa qsb qsc hu1 qu1 hi1 qi1 hab qab hac qac hu2 qu2 hx
  have hEx := hEx'.alloc (.cells #[.int .i64 n, .slice (some ⟨gm1, 0, none⟩) m1.length m1.length] 24)
  have qsa := qsa'.alloc (.cells #[.int .i64 n, .slice (some ⟨gm1, 0, none⟩) m1.length m1.length] 24)
  have qsb := qsb'.alloc (.cells #[.int .i64 n, .slice (some ⟨gm1, 0, none⟩) m1.length m1.length] 24)
  have qsc := qsc'.alloc (.cells #[.int .i64 n, .slice (some ⟨gm1, 0, none⟩) m1.length m1.length] 24)
  have hu1 := hu1'.alloc (.cells #[.int .i64 n, .slice (some ⟨gm1, 0, none⟩) m1.length m1.length] 24)
  have qu1 := qu1'.alloc (.cells #[.int .i64 n, .slice (some ⟨gm1, 0, none⟩) m1.length m1.length] 24)
  have hi1 := hi1'.alloc (.cells #[.int .i64 n, .slice (some ⟨gm1, 0, none⟩) m1.length m1.length] 24)
  have qi1 := qi1'.alloc (.cells #[.int .i64 n, .slice (some ⟨gm1, 0, none⟩) m1.length m1.length] 24)
  have hab := hab'.alloc (.cells #[.int .i64 n, .slice (some ⟨gm1, 0, none⟩) m1.length m1.length] 24)
  have qab := qab'.alloc (.cells #[.int .i64 n, .slice (some ⟨gm1, 0, none⟩) m1.length m1.length] 24)
  have hac := hac'.alloc (.cells #[.int .i64 n, .slice (some ⟨gm1, 0, none⟩) m1.length m1.length] 24)
  have qac := qac'.alloc (.cells #[.int .i64 n, .slice (some ⟨gm1, 0, none⟩) m1.length m1.length] 24)
  have hu2 := hu2'.alloc (.cells #[.int .i64 n, .slice (some ⟨gm1, 0, none⟩) m1.length m1.length] 24)
  have qu2 := qu2'.alloc (.cells #[.int .i64 n, .slice (some ⟨gm1, 0, none⟩) m1.length m1.length] 24)
  have hm1' := hm1
  clear hm1
  have hm1 := hm1'.alloc (.cells #[.int .i64 n, .slice (some ⟨gm1, 0, none⟩) m1.length m1.length] 24)
  have qm1 := Blk.new w6 24 [.int .i64 n, .slice (some ⟨gm1, 0, none⟩) m1.length m1.length]
  have lsa := qsa'.lt
  have psa := qsa'.cell 0
  have osa := qsa'.cell 1
  have lsb := qsb'.lt
  have psb := qsb'.cell 0
  have osb := qsb'.cell 1
  simp only [List.getElem?_cons_zero, List.getElem?_cons_succ] at psa osa psb osb
  have X := Lib.hid (And.intro hEx ( And.intro qsa ( And.intro qsb ( And.intro qsc ( And.intro hu1 ( And.intro qu1 ( And.intro hi1 ( And.intro qi1 ( And.intro hab ( And.intro qab ( And.intro hac ( And.intro qac ( And.intro hu2 ( And.intro qu2 ( And.intro hm1 (qm1))))))))))))))))
  clear hEx qsa qsb qsc hu1 qu1 hi1 qi1 hab qab hac qac hu2 qu2 hm1 qm1 hEx' qsa' qsb' qsc' hu1' qu1' hi1' qi1' hab' qab' hac' qac' hu2' qu2' hm1'
  go_wp2_with fail
  generalize hVV : w6.alloc (.cells #[.int .i64 n, .slice (some ⟨gm1, 0, none⟩) m1.length m1.length] 24) = V6 at *
  generalize w6.heap.size = bm1 at *
  clear hVV
  clear lsa psa osa lsb psb osb
  obtain ⟨hEx, qsa, qsb, qsc, hu1, qu1, hi1, qi1, hab, qab, hac, qac, hu2, qu2, hm1, qm1⟩ := X.out
  clear X
  refine (Hxd1.out _ hEx ).mono ?_
  rintro e' w7 ⟨gd1, rfl, -, hd1, hx⟩
  have hEx' := hEx.trans hx
  have qsa' := qsa.ex hx
  have qsb' := qsb.ex hx
  have qsc' := qsc.ex hx
  have hu1' := hu1.ex hx
  have qu1' := qu1.ex hx
  have hi1' := hi1.ex hx
  have qi1' := qi1.ex hx
  have hab' := hab.ex hx
  have qab' := qab.ex hx
  have hac' := hac.ex hx
  have qac' := qac.ex hx
  have hu2' := hu2.ex hx
  have qu2' := qu2.ex hx
  have hm1' := hm1.ex hx
  have qm1' := qm1.ex hx
  clear hEx qsa qsb qsc hu1 qu1 hi1 qi1 hab qab hac qac hu2 qu2 hm1 qm1 hx
  have hEx := hEx'.alloc (.cells #[.int .i64 n, .slice (some ⟨gd1, 0, none⟩) d1.length d1.length] 24)
  have qsa := qsa'.alloc (.cells #[.int .i64 n, .slice (some ⟨gd1, 0, none⟩) d1.length d1.length] 24)
  have qsb := qsb'.alloc (.cells #[.int .i64 n, .slice (some ⟨gd1, 0, none⟩) d1.length d1.length] 24)
  have qsc := qsc'.alloc (.cells #[.int .i64 n, .slice (some ⟨gd1, 0, none⟩) d1.length d1.length] 24)
  have hu1 := hu1'.alloc (.cells #[.int .i64 n, .slice (some ⟨gd1, 0, none⟩) d1.length d1.length] 24)
  have qu1 := qu1'.alloc (.cells #[.int .i64 n, .slice (some ⟨gd1, 0, none⟩) d1.length d1.length] 24)
  have hi1 := hi1'.alloc (.cells #[.int .i64 n, .slice (some ⟨gd1, 0, none⟩) d1.length d1.length] 24)
  have qi1 := qi1'.alloc (.cells #[.int .i64 n, .slice (some ⟨gd1, 0, none⟩) d1.length d1.length] 24)
  have hab := hab'.alloc (.cells #[.int .i64 n, .slice (some ⟨gd1, 0, none⟩) d1.length d1.length] 24)
  have qab := qab'.alloc (.cells #[.int .i64 n, .slice (some ⟨gd1, 0, none⟩) d1.length d1.length] 24)
  have hac := hac'.alloc (.cells #[.int .i64 n, .slice (some ⟨gd1, 0, none⟩) d1.length d1.length] 24)
  have qac := qac'.alloc (.cells #[.int .i64 n, .slice (some ⟨gd1, 0, none⟩) d1.length d1.length] 24)
  have hu2 := hu2'.alloc (.cells #[.int .i64 n, .slice (some ⟨gd1, 0, none⟩) d1.length d1.length] 24)
  have qu2 := qu2'.alloc (.cells #[.int .i64 n, .slice (some ⟨gd1, 0, none⟩) d1.length d1.length] 24)
  have hm1 := hm1'.alloc (.cells #[.int .i64 n, .slice (some ⟨gd1, 0, none⟩) d1.length d1.length] 24)
  have qm1 := qm1'.alloc (.cells #[.int .i64 n, .slice (some ⟨gd1, 0, none⟩) d1.length d1.length] 24)
  have hd1' := hd1
  clear hd1
  have hd1 := hd1'.alloc (.cells #[.int .i64 n, .slice (some ⟨gd1, 0, none⟩) d1.length d1.length] 24)
  have qd1 := Blk.new w7 24 [.int .i64 n, .slice (some ⟨gd1, 0, none⟩) d1.length d1.length]
  have lsa := qsa'.lt
  have psa := qsa'.cell 0
  have osa := qsa'.cell 1
  have lsc := qsc'.lt
  have psc := qsc'.cell 0
  have osc := qsc'.cell 1
  simp only [List.getElem?_cons_zero, List.getElem?_cons_succ] at psa osa psc osc
  have X := Lib.hid (And.intro hEx ( And.intro qsa ( And.intro qsb ( And.intro qsc ( And.intro hu1 ( And.intro qu1 ( And.intro hi1 ( And.intro qi1 ( And.intro hab ( And.intro qab ( And.intro hac ( And.intro qac ( And.intro hu2 ( And.intro qu2 ( And.intro hm1 ( And.intro qm1 ( And.intro hd1 (qd1))))))))))))))))))
  clear hEx qsa qsb qsc hu1 qu1 hi1 qi1 hab qab hac qac hu2 qu2 hm1 qm1 hd1 qd1 hEx' qsa' qsb' qsc' hu1' qu1' hi1' qi1' hab' qab' hac' qac' hu2' qu2' hm1' qm1' hd1'
  go_wp2_with fail
  generalize hVV : w7.alloc (.cells #[.int .i64 n, .slice (some ⟨gd1, 0, none⟩) d1.length d1.length] 24) = V7 at *
  generalize w7.heap.size = bd1 at *
  clear hVV
  clear lsa psa osa lsc psc osc
  obtain ⟨hEx, qsa, qsb, qsc, hu1, qu1, hi1, qi1, hab, qab, hac, qac, hu2, qu2, hm1, qm1, hd1, qd1⟩ := X.out
  clear X
  refine (Hxd2.out _ hEx ).mono ?_
  rintro e' w8 ⟨gd2, rfl, -, hd2, hx⟩
  have hEx' := hEx.trans hx
  have qsa' := qsa.ex hx
  have qsb' := qsb.ex hx
  have qsc' := qsc.ex hx
  have hu1' := hu1.ex hx
  have qu1' := qu1.ex hx
  have hi1' := hi1.ex hx
  have qi1' := qi1.ex hx
  have hab' := hab.ex hx
  have qab' := qab.ex hx
  have hac' := hac.ex hx
  have qac' := qac.ex hx
  have hu2' := hu2.ex hx
  have qu2' := qu2.ex hx
  have hm1' := hm1.ex hx
  have qm1' := qm1.ex hx
  have hd1' := hd1.ex hx
  have qd1' := qd1.ex hx
  clear hEx qsa qsb qsc hu1 qu1 hi1 qi1 hab qab hac qac hu2 qu2 hm1 qm1 hd1 qd1 hx
  have hEx := hEx'.alloc (.cells #[.int .i64 n, .slice (some ⟨gd2, 0, none⟩) d2.length d2.length] 24)
  have qsa := qsa'.alloc (.cells #[.int .i64 n, .slice (some ⟨gd2, 0, none⟩) d2.length d2.length] 24)
  have qsb := qsb'.alloc (.cells #[.int .i64 n, .slice (some ⟨gd2, 0, none⟩) d2.length d2.length] 24)
  have qsc := qsc'.alloc (.cells #[.int .i64 n, .slice (some ⟨gd2, 0, none⟩) d2.length d2.length] 24)
  have hu1 := hu1'.alloc (.cells #[.int .i64 n, .slice (some ⟨gd2, 0, none⟩) d2.length d2.length] 24)
  have qu1 := qu1'.alloc (.cells #[.int .i64 n, .slice (some ⟨gd2, 0, none⟩) d2.length d2.length] 24)
  have hi1 := hi1'.alloc (.cells #[.int .i64 n, .slice (some ⟨gd2, 0, none⟩) d2.length d2.length] 24)
  have qi1 := qi1'.alloc (.cells #[.int .i64 n, .slice (some ⟨gd2, 0, none⟩) d2.length d2.length] 24)
  have hab := hab'.alloc (.cells #[.int .i64 n, .slice (some ⟨gd2, 0, none⟩) d2.length d2.length] 24)
  have qab := qab'.alloc (.cells #[.int .i64 n, .slice (some ⟨gd2, 0, none⟩) d2.length d2.length] 24)
  have hac := hac'.alloc (.cells #[.int .i64 n, .slice (some ⟨gd2, 0, none⟩) d2.length d2.length] 24)
  have qac := qac'.alloc (.cells #[.int .i64 n, .slice (some ⟨gd2, 0, none⟩) d2.length d2.length] 24)
  have hu2 := hu2'.alloc (.cells #[.int .i64 n, .slice (some ⟨gd2, 0, none⟩) d2.length d2.length] 24)
  have qu2 := qu2'.alloc (.cells #[.int .i64 n, .slice (some ⟨gd2, 0, none⟩) d2.length d2.length] 24)
  have hm1 := hm1'.alloc (.cells #[.int .i64 n, .slice (some ⟨gd2, 0, none⟩) d2.length d2.length] 24)
  have qm1 := qm1'.alloc (.cells #[.int .i64 n, .slice (some ⟨gd2, 0, none⟩) d2.length d2.length] 24)
  have hd1 := hd1'.alloc (.cells #[.int .i64 n, .slice (some ⟨gd2, 0, none⟩) d2.length d2.length] 24)
  have qd1 := qd1'.alloc (.cells #[.int .i64 n, .slice (some ⟨gd2, 0, none⟩) d2.length d2.length] 24)
  have hd2' := hd2
  clear hd2
  have hd2 := hd2'.alloc (.cells #[.int .i64 n, .slice (some ⟨gd2, 0, none⟩) d2.length d2.length] 24)
  have qd2 := Blk.new w8 24 [.int .i64 n, .slice (some ⟨gd2, 0, none⟩) d2.length d2.length]
  have ld1 := qd1'.lt
  have pd1 := qd1'.cell 0
  have od1 := qd1'.cell 1
  simp only [List.getElem?_cons_zero, List.getElem?_cons_succ] at pd1 od1
  have X := Lib.hid (And.intro hEx ( And.intro qsa ( And.intro qsb ( And.intro qsc ( And.intro hu1 ( And.intro qu1 ( And.intro hi1 ( And.intro qi1 ( And.intro hab ( And.intro qab ( And.intro hac ( And.intro qac ( And.intro hu2 ( And.intro qu2 ( And.intro hm1 ( And.intro qm1 ( And.intro hd1 ( And.intro qd1 ( And.intro hd2 (qd2))))))))))))))))))))
  clear hEx qsa qsb qsc hu1 qu1 hi1 qi1 hab qab hac qac hu2 qu2 hm1 qm1 hd1 qd1 hd2 qd2 hEx' qsa' qsb' qsc' hu1' qu1' hi1' qi1' hab' qab' hac' qac' hu2' qu2' hm1' qm1' hd1' qd1' hd2'
  go_wp2_with fail
  generalize hVV : w8.alloc (.cells #[.int .i64 n, .slice (some ⟨gd2, 0, none⟩) d2.length d2.length] 24) = V8 at *
  generalize w8.heap.size = bd2 at *
  clear hVV
  clear ld1 pd1 od1
  obtain ⟨hEx, qsa, qsb, qsc, hu1, qu1, hi1, qi1, hab, qab, hac, qac, hu2, qu2, hm1, qm1, hd1, qd1, hd2, qd2⟩ := X.out
  clear X
  refine (Hxi2.out _ hEx _ hd1 _ hd2).mono ?_
  rintro e' w9 ⟨gi2, rfl, -, hi2, hx⟩
  have hEx' := hEx.trans hx
  have qsa' := qsa.ex hx
  have qsb' := qsb.ex hx
  have qsc' := qsc.ex hx
  have hu1' := hu1.ex hx
  have qu1' := qu1.ex hx
  have hi1' := hi1.ex hx
  have qi1' := qi1.ex hx
  have hab' := hab.ex hx
  have qab' := qab.ex hx
  have hac' := hac.ex hx
  have qac' := qac.ex hx
  have hu2' := hu2.ex hx
  have qu2' := qu2.ex hx
  have hm1' := hm1.ex hx
  have qm1' := qm1.ex hx
  have hd1' := hd1.ex hx
  have qd1' := qd1.ex hx
  have hd2' := hd2.ex hx
  have qd2' := qd2.ex hx
  clear hEx qsa qsb qsc hu1 qu1 hi1 qi1 hab qab hac qac hu2 qu2 hm1 qm1 hd1 qd1 hd2 qd2 hx
  have hEx := hEx'.alloc (.cells #[.int .i64 n, .slice (some ⟨gi2, 0, none⟩) i2.length i2.length] 24)
  have qsa := qsa'.alloc (.cells #[.int .i64 n, .slice (some ⟨gi2, 0, none⟩) i2.length i2.length] 24)
  have qsb := qsb'.alloc (.cells #[.int .i64 n, .slice (some ⟨gi2, 0, none⟩) i2.length i2.length] 24)
  have qsc := qsc'.alloc (.cells #[.int .i64 n, .slice (some ⟨gi2, 0, none⟩) i2.length i2.length] 24)
  have hu1 := hu1'.alloc (.cells #[.int .i64 n, .slice (some ⟨gi2, 0, none⟩) i2.length i2.length] 24)
  have qu1 := qu1'.alloc (.cells #[.int .i64 n, .slice (some ⟨gi2, 0, none⟩) i2.length i2.length] 24)
  have hi1 := hi1'.alloc (.cells #[.int .i64 n, .slice (some ⟨gi2, 0, none⟩) i2.length i2.length] 24)
  have qi1 := qi1'.alloc (.cells #[.int .i64 n, .slice (some ⟨gi2, 0, none⟩) i2.length i2.length] 24)
  have hab := hab'.alloc (.cells #[.int .i64 n, .slice (some ⟨gi2, 0, none⟩) i2.length i2.length] 24)
  have qab := qab'.alloc (.cells #[.int .i64 n, .slice (some ⟨gi2, 0, none⟩) i2.length i2.length] 24)
  have hac := hac'.alloc (.cells #[.int .i64 n, .slice (some ⟨gi2, 0, none⟩) i2.length i2.length] 24)
  have qac := qac'.alloc (.cells #[.int .i64 n, .slice (some ⟨gi2, 0, none⟩) i2.length i2.length] 24)
  have hu2 := hu2'.alloc (.cells #[.int .i64 n, .slice (some ⟨gi2, 0, none⟩) i2.length i2.length] 24)
  have qu2 := qu2'.alloc (.cells #[.int .i64 n, .slice (some ⟨gi2, 0, none⟩) i2.length i2.length] 24)
  have hm1 := hm1'.alloc (.cells #[.int .i64 n, .slice (some ⟨gi2, 0, none⟩) i2.length i2.length] 24)
  have qm1 := qm1'.alloc (.cells #[.int .i64 n, .slice (some ⟨gi2, 0, none⟩) i2.length i2.length] 24)
  have hd1 := hd1'.alloc (.cells #[.int .i64 n, .slice (some ⟨gi2, 0, none⟩) i2.length i2.length] 24)
  have qd1 := qd1'.alloc (.cells #[.int .i64 n, .slice (some ⟨gi2, 0, none⟩) i2.length i2.length] 24)
  have hd2 := hd2'.alloc (.cells #[.int .i64 n, .slice (some ⟨gi2, 0, none⟩) i2.length i2.length] 24)
  have qd2 := qd2'.alloc (.cells #[.int .i64 n, .slice (some ⟨gi2, 0, none⟩) i2.length i2.length] 24)
  have hi2' := hi2
  clear hi2
  have hi2 := hi2'.alloc (.cells #[.int .i64 n, .slice (some ⟨gi2, 0, none⟩) i2.length i2.length] 24)
  have qi2 := Blk.new w9 24 [.int .i64 n, .slice (some ⟨gi2, 0, none⟩) i2.length i2.length]
  have lsa := qsa'.lt
  have psa := qsa'.cell 0
  have osa := qsa'.cell 1
  have lsb := qsb'.lt
  have psb := qsb'.cell 0
  have osb := qsb'.cell 1
  simp only [List.getElem?_cons_zero, List.getElem?_cons_succ] at psa osa psb osb
  have X := Lib.hid (And.intro hEx ( And.intro qsa ( And.intro qsb ( And.intro qsc ( And.intro hu1 ( And.intro qu1 ( And.intro hi1 ( And.intro qi1 ( And.intro hab ( And.intro qab ( And.intro hac ( And.intro qac ( And.intro hu2 ( And.intro qu2 ( And.intro hm1 ( And.intro qm1 ( And.intro hd1 ( And.intro qd1 ( And.intro hd2 ( And.intro qd2 ( And.intro hi2 (qi2))))))))))))))))))))))
  clear hEx qsa qsb qsc hu1 qu1 hi1 qi1 hab qab hac qac hu2 qu2 hm1 qm1 hd1 qd1 hd2 qd2 hi2 qi2 hEx' qsa' qsb' qsc' hu1' qu1' hi1' qi1' hab' qab' hac' qac' hu2' qu2' hm1' qm1' hd1' qd1' hd2' qd2' hi2'
  go_wp2_with fail
  generalize hVV : w9.alloc (.cells #[.int .i64 n, .slice (some ⟨gi2, 0, none⟩) i2.length i2.length] 24) = V9 at *
  generalize w9.heap.size = bi2 at *
  clear hVV
  clear lsa psa osa lsb psb osb
  obtain ⟨hEx, qsa, qsb, qsc, hu1, qu1, hi1, qi1, hab, qab, hac, qac, hu2, qu2, hm1, qm1, hd1, qd1, hd2, qd2, hi2, qi2⟩ := X.out
  clear X
  refine (Hxu3.out _ hEx ).mono ?_
  rintro e' w10 ⟨gu3, rfl, -, hu3, hx⟩
  have hEx' := hEx.trans hx
  have qsa' := qsa.ex hx
  have qsb' := qsb.ex hx
  have qsc' := qsc.ex hx
  have hu1' := hu1.ex hx
  have qu1' := qu1.ex hx
  have hi1' := hi1.ex hx
  have qi1' := qi1.ex hx
  have hab' := hab.ex hx
  have qab' := qab.ex hx
  have hac' := hac.ex hx
  have qac' := qac.ex hx
  have hu2' := hu2.ex hx
  have qu2' := qu2.ex hx
  have hm1' := hm1.ex hx
  have qm1' := qm1.ex hx
  have hd1' := hd1.ex hx
  have qd1' := qd1.ex hx
  have hd2' := hd2.ex hx
  have qd2' := qd2.ex hx
  have hi2' := hi2.ex hx
  have qi2' := qi2.ex hx
  clear hEx qsa qsb qsc hu1 qu1 hi1 qi1 hab qab hac qac hu2 qu2 hm1 qm1 hd1 qd1 hd2 qd2 hi2 qi2 hx
  have hEx := hEx'.alloc (.cells #[.int .i64 n, .slice (some ⟨gu3, 0, none⟩) u3.length u3.length] 24)
  have qsa := qsa'.alloc (.cells #[.int .i64 n, .slice (some ⟨gu3, 0, none⟩) u3.length u3.length] 24)
  have qsb := qsb'.alloc (.cells #[.int .i64 n, .slice (some ⟨gu3, 0, none⟩) u3.length u3.length] 24)
  have qsc := qsc'.alloc (.cells #[.int .i64 n, .slice (some ⟨gu3, 0, none⟩) u3.length u3.length] 24)
  have hu1 := hu1'.alloc (.cells #[.int .i64 n, .slice (some ⟨gu3, 0, none⟩) u3.length u3.length] 24)
  have qu1 := qu1'.alloc (.cells #[.int .i64 n, .slice (some ⟨gu3, 0, none⟩) u3.length u3.length] 24)
  have hi1 := hi1'.alloc (.cells #[.int .i64 n, .slice (some ⟨gu3, 0, none⟩) u3.length u3.length] 24)
  have qi1 := qi1'.alloc (.cells #[.int .i64 n, .slice (some ⟨gu3, 0, none⟩) u3.length u3.length] 24)
  have hab := hab'.alloc (.cells #[.int .i64 n, .slice (some ⟨gu3, 0, none⟩) u3.length u3.length] 24)
  have qab := qab'.alloc (.cells #[.int .i64 n, .slice (some ⟨gu3, 0, none⟩) u3.length u3.length] 24)
  have hac := hac'.alloc (.cells #[.int .i64 n, .slice (some ⟨gu3, 0, none⟩) u3.length u3.length] 24)
  have qac := qac'.alloc (.cells #[.int .i64 n, .slice (some ⟨gu3, 0, none⟩) u3.length u3.length] 24)
  have hu2 := hu2'.alloc (.cells #[.int .i64 n, .slice (some ⟨gu3, 0, none⟩) u3.length u3.length] 24)
  have qu2 := qu2'.alloc (.cells #[.int .i64 n, .slice (some ⟨gu3, 0, none⟩) u3.length u3.length] 24)
  have hm1 := hm1'.alloc (.cells #[.int .i64 n, .slice (some ⟨gu3, 0, none⟩) u3.length u3.length] 24)
  have qm1 := qm1'.alloc (.cells #[.int .i64 n, .slice (some ⟨gu3, 0, none⟩) u3.length u3.length] 24)
  have hd1 := hd1'.alloc (.cells #[.int .i64 n, .slice (some ⟨gu3, 0, none⟩) u3.length u3.length] 24)
  have qd1 := qd1'.alloc (.cells #[.int .i64 n, .slice (some ⟨gu3, 0, none⟩) u3.length u3.length] 24)
  have hd2 := hd2'.alloc (.cells #[.int .i64 n, .slice (some ⟨gu3, 0, none⟩) u3.length u3.length] 24)
  have qd2 := qd2'.alloc (.cells #[.int .i64 n, .slice (some ⟨gu3, 0, none⟩) u3.length u3.length] 24)
  have hi2 := hi2'.alloc (.cells #[.int .i64 n, .slice (some ⟨gu3, 0, none⟩) u3.length u3.length] 24)
  have qi2 := qi2'.alloc (.cells #[.int .i64 n, .slice (some ⟨gu3, 0, none⟩) u3.length u3.length] 24)
  have hu3' := hu3
  clear hu3
  have hu3 := hu3'.alloc (.cells #[.int .i64 n, .slice (some ⟨gu3, 0, none⟩) u3.length u3.length] 24)
  have qu3 := Blk.new w10 24 [.int .i64 n, .slice (some ⟨gu3, 0, none⟩) u3.length u3.length]
  have lm1 := qm1'.lt
  have pm1 := qm1'.cell 0
  have om1 := qm1'.cell 1
  have li2 := qi2'.lt
  have pi2 := qi2'.cell 0
  have oi2 := qi2'.cell 1
  simp only [List.getElem?_cons_zero, List.getElem?_cons_succ] at pm1 om1 pi2 oi2
  have X := Lib.hid (And.intro hEx ( And.intro qsa ( And.intro qsb ( And.intro qsc ( And.intro hu1 ( And.intro qu1 ( And.intro hi1 ( And.intro qi1 ( And.intro hab ( And.intro qab ( And.intro hac ( And.intro qac ( And.intro hu2 ( And.intro qu2 ( And.intro hm1 ( And.intro qm1 ( And.intro hd1 ( And.intro qd1 ( And.intro hd2 ( And.intro qd2 ( And.intro hi2 ( And.intro qi2 ( And.intro hu3 (qu3))))))))))))))))))))))))
  clear hEx qsa qsb qsc hu1 qu1 hi1 qi1 hab qab hac qac hu2 qu2 hm1 qm1 hd1 qd1 hd2 qd2 hi2 qi2 hu3 qu3 hEx' qsa' qsb' qsc' hu1' qu1' hi1' qi1' hab' qab' hac' qac' hu2' qu2' hm1' qm1' hd1' qd1' hd2' qd2' hi2' qi2' hu3'
  go_wp2_with fail
  generalize hVV : w10.alloc (.cells #[.int .i64 n, .slice (some ⟨gu3, 0, none⟩) u3.length u3.length] 24) = V10 at *
  generalize w10.heap.size = bu3 at *
  clear hVV
  clear lm1 pm1 om1 li2 pi2 oi2
  obtain ⟨hEx, qsa, qsb, qsc, hu1, qu1, hi1, qi1, hab, qab, hac, qac, hu2, qu2, hm1, qm1, hd1, qd1, hd2, qd2, hi2, qi2, hu3, qu3⟩ := X.out
  clear X
  refine (S2.out _ _ _ hm1 hi2).mono ?_
  rintro e' w10r ⟨rfl, hx⟩
  have hEx' := hEx.trans hx
  have qsa' := qsa.ex hx
  have qsb' := qsb.ex hx
  have qsc' := qsc.ex hx
  have hu1' := hu1.ex hx
  have qu1' := qu1.ex hx
  have hi1' := hi1.ex hx
  have qi1' := qi1.ex hx
  have hab' := hab.ex hx
  have qab' := qab.ex hx
  have hac' := hac.ex hx
  have qac' := qac.ex hx
  have hu2' := hu2.ex hx
  have qu2' := qu2.ex hx
  have hm1' := hm1.ex hx
  have qm1' := qm1.ex hx
  have hd1' := hd1.ex hx
  have qd1' := qd1.ex hx
  have hd2' := hd2.ex hx
  have qd2' := qd2.ex hx
  have hi2' := hi2.ex hx
  have qi2' := qi2.ex hx
  have hu3' := hu3.ex hx
  have qu3' := qu3.ex hx
  clear hEx qsa qsb qsc hu1 qu1 hi1 qi1 hab qab hac qac hu2 qu2 hm1 qm1 hd1 qd1 hd2 qd2 hi2 qi2 hu3 qu3 hx
  have hEx := hEx'
  clear hEx'
  have qsa := qsa'
  clear qsa'
  have qsb := qsb'
  clear qsb'
  have qsc := qsc'
  clear qsc'
  have hu1 := hu1'
  clear hu1'
  have qu1 := qu1'
  clear qu1'
  have hi1 := hi1'
  clear hi1'
  have qi1 := qi1'
  clear qi1'
  have hab := hab'
  clear hab'
  have qab := qab'
  clear qab'
  have hac := hac'
  clear hac'
  have qac := qac'
  clear qac'
  have hu2 := hu2'
  clear hu2'
  have qu2 := qu2'
  clear qu2'
  have hm1 := hm1'
  clear hm1'
  have qm1 := qm1'
  clear qm1'
  have hd1 := hd1'
  clear hd1'
  have qd1 := qd1'
  clear qd1'
  have hd2 := hd2'
  clear hd2'
  have qd2 := qd2'
  clear qd2'
  have hi2 := hi2'
  clear hi2'
  have qi2 := qi2'
  clear qi2'
  have hu3 := hu3'
  clear hu3'
  have qu3 := qu3'
  clear qu3'
  have lu3 := qu3.lt
  have pu3 := qu3.cell 0
  have ou3 := qu3.cell 1
  have lsa := qsa.lt
  have psa := qsa.cell 0
  have osa := qsa.cell 1
  have lsb := qsb.lt
  have psb := qsb.cell 0
  have osb := qsb.cell 1
  have lab := qab.lt
  have pab := qab.cell 0
  have oab := qab.cell 1
  have ld1 := qd1.lt
  have pd1 := qd1.cell 0
  have od1 := qd1.cell 1
  simp only [List.getElem?_cons_zero, List.getElem?_cons_succ] at pu3 ou3 psa osa psb osb pab oab pd1 od1
  have X := Lib.hid (And.intro hEx ( And.intro qsa ( And.intro qsb ( And.intro qsc ( And.intro hu1 ( And.intro qu1 ( And.intro hi1 ( And.intro qi1 ( And.intro hab ( And.intro qab ( And.intro hac ( And.intro qac ( And.intro hu2 ( And.intro qu2 ( And.intro hm1 ( And.intro qm1 ( And.intro hd1 ( And.intro qd1 ( And.intro hd2 ( And.intro qd2 ( And.intro hi2 ( And.intro qi2 ( And.intro hu3 (qu3))))))))))))))))))))))))
  clear hEx qsa qsb qsc hu1 qu1 hi1 qi1 hab qab hac qac hu2 qu2 hm1 qm1 hd1 qd1 hd2 qd2 hi2 qi2 hu3 qu3
  go_wp2
  obtain ⟨hEx, qsa, qsb, qsc, hu1, qu1, hi1, qi1, hab, qab, hac, qac, hu2, qu2, hm1, qm1, hd1, qd1, hd2, qd2, hi2, qi2, hu3, qu3⟩ := X.out
  clear X
  have Y0 := Lib.hid (fun z : Up w10r => hEx.ext z)
  have Y1 := Lib.hid (fun z : Up w10r => hu3.ex ⟨z, rfl⟩)
  have Y2 := Lib.hid (fun z : Up w10r => hab.ex ⟨z, rfl⟩)
  have Y3 := Lib.hid (fun z : Up w10r => hd1.ex ⟨z, rfl⟩)
  clear hEx qsa qsb qsc hu1 qu1 hi1 qi1 hab qab hac qac hu2 qu2 hm1 qm1 hd1 qd1 hd2 qd2 hi2 qi2 hu3 qu3
  refine wp_region_ext (by kernel_rfl) (by kernel_rfl) ?_
  repeat (go_big_quiet_step (fail))
  go_big_quiet_step ((go_at_call 25; exact quiet_ext (Cu3.out _ _ (Y1.out _))))
  repeat (go_big_quiet_step (fail))
  go_big_quiet_step ((go_at_call 25; exact quiet_ext (Csa.out _ (Y0.out _))))
  repeat (go_big_quiet_step (fail))
  go_big_quiet_step ((go_at_call 25; exact quiet_ext (Csb.out _ (Y0.out _))))
  repeat (go_big_quiet_step (fail))
  go_big_quiet_step ((go_at_call 25; exact quiet_ext (Cab.out _ _ (Y2.out _))))
  repeat (go_big_quiet_step (fail))
  go_big_quiet_step ((go_at_call 25; exact quiet_ext (Csa.out _ (Y0.out _))))
  repeat (go_big_quiet_step (fail))
  go_big_quiet_step ((go_at_call 25; exact quiet_ext (Cd1.out _ _ (Y3.out _))))
  repeat (go_big_quiet_step (fail))
  go_big_quiet_step ((go_at_call 25; exact quiet_ext (Cab.out _ _ (Y2.out _))))
  repeat (go_big_quiet_step (fail))
  refine wpQuiet_end (fun z => ?_)
  go_wp2
  go_ret
  exact Ret.mk rfl (Y0.out _)
theorem algebra_c (N N2 N3 : Int) (A B C : Option Addr) (c d e : Nat) (ws us vs : List Nat) (w : World) (hT : Tab w) (hC : Cells w A (u64s ws)) (hD : Cells w B (u64s us)) (hE : Cells w C (u64s vs)) (hw : Wd ws) (hu : Wd us) (hvs : Wd vs) :
    Calls Tryd.prog 7 #[.agg #[.int .i64 N, .slice A ws.length c], .agg #[.int .i64 N2, .slice B us.length d], .agg #[.int .i64 N3, .slice C vs.length e]] w (Ret w (.bool true)) := by
  cases h20 : (decide (ws.length ≤ 20) && (decide (us.length ≤ 20) && decide (vs.length ≤ 20)))
  · exact algebra_few N N2 N3 A B C c d e ws us vs w hT h20
  cases h : (validB N ws && (validB N2 us && decide (N = N2)))
  · exact algebra_ab N N2 N3 A B C c d e ws us vs w hT hC hD hE hw hu hvs h20 h
  cases h2 : (validB N2 us && (validB N3 vs && decide (N2 = N3)))
  · exact algebra_bc N N2 N3 A B C c d e ws us vs w hT hC hD hE hw hu hvs h20 h h2
  obtain ⟨n, rfl, rfl, hv, hvu⟩ := both_valid h
  obtain ⟨n', e0, rfl, -, hvv⟩ := both_valid h2
  have : n' = n := by omega
  subst this
  exact algebra_good n' A B C c d e ws us vs w hT hC hD hE hw hu hvs h20 hv hvu hvv
end Go.Proofs.YtfinldppcdkeoaaDoor
