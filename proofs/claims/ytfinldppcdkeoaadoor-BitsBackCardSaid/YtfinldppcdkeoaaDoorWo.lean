/-
  The law of the forms: walks over the law's own function.
  Conditions: words below 2^64.
-/
import Derived.Test.YtfinldppcdkeoaaDoorWn
import Derived.Deep.RegionHeld3
namespace Go.Proofs.YtfinldppcdkeoaaDoor
open Go.RowKit Bm
theorem few_one (w : World) (g t : Nat) (N : Int) (A : Option Addr) (m c : Nat) (hB : Blk w g t [.int .i64 N, .slice A m c]) :
    Calls Tryd.prog 12 #[.slice (some ⟨g, 0, none⟩) 1 1] w (Ret w (.bool (decide (m ≤ 20)))) := by
  have h := few_c g [(N, A, m, c)] w ⟨hB.lt, fun j s hj => by
    match j, hj with
    | 0, hj => injection hj with hj; subst hj; exact ⟨hB.cell 0, hB.cell 1⟩
    | j + 1, hj => simp at hj⟩ (by simp)
  have e : decide (∀ s ∈ [(N, A, m, c)], s.2.2.1 ≤ 20) = decide (m ≤ 20) := by simp
  rw [e] at h
  exact h
theorem few_two (w : World) (g t : Nat) (N N2 : Int) (A A2 : Option Addr) (m c m2 c2 : Nat) (hB : Blk w g t [.int .i64 N, .slice A m c, .int .i64 N2, .slice A2 m2 c2]) :
    Calls Tryd.prog 12 #[.slice (some ⟨g, 0, none⟩) 2 2] w (Ret w (.bool (decide (m ≤ 20) && decide (m2 ≤ 20)))) := by
  have h := few_c g [(N, A, m, c), (N2, A2, m2, c2)] w ⟨hB.lt, fun j s hj => by
    match j, hj with
    | 0, hj => injection hj with hj; subst hj; exact ⟨hB.cell 0, hB.cell 1⟩
    | 1, hj => injection hj with hj; subst hj; exact ⟨hB.cell 2, hB.cell 3⟩
    | j + 2, hj => simp at hj⟩ (by simp)
  have e : decide (∀ s ∈ [(N, A, m, c), (N2, A2, m2, c2)], s.2.2.1 ≤ 20) = (decide (m ≤ 20) && decide (m2 ≤ 20)) := by simp
  rw [e] at h
  exact h
theorem few_three (w : World) (g t : Nat) (N N2 N3 : Int) (A A2 A3 : Option Addr) (m c m2 c2 m3 c3 : Nat) (hB : Blk w g t [.int .i64 N, .slice A m c, .int .i64 N2, .slice A2 m2 c2, .int .i64 N3, .slice A3 m3 c3]) :
    Calls Tryd.prog 12 #[.slice (some ⟨g, 0, none⟩) 3 3] w (Ret w (.bool (decide (m ≤ 20) && (decide (m2 ≤ 20) && decide (m3 ≤ 20))))) := by
  have h := few_c g [(N, A, m, c), (N2, A2, m2, c2), (N3, A3, m3, c3)] w ⟨hB.lt, fun j s hj => by
    match j, hj with
    | 0, hj => injection hj with hj; subst hj; exact ⟨hB.cell 0, hB.cell 1⟩
    | 1, hj => injection hj with hj; subst hj; exact ⟨hB.cell 2, hB.cell 3⟩
    | 2, hj => injection hj with hj; subst hj; exact ⟨hB.cell 4, hB.cell 5⟩
    | j + 3, hj => simp at hj⟩ (by simp)
  have e : decide (∀ s ∈ [(N, A, m, c), (N2, A2, m2, c2), (N3, A3, m3, c3)], s.2.2.1 ≤ 20) = (decide (m ≤ 20) && (decide (m2 ≤ 20) && decide (m3 ≤ 20))) := by simp
  rw [e] at h
  exact h
/-- a set and a code handed back -/
def SetE (w : World) (n : Int) (ws : List Nat) (code : Int) (e : Ending) (w' : World) : Prop :=
  ∃ A c, e = .returned (.tuple #[.agg #[.int .i64 n, .slice A ws.length c], .int .i64 code]) ∧ Cells w' A (u64s ws) ∧ Ex w w'
def SetR (w : World) (n : Int) (ws : List Nat) (e : Ending) (w' : World) : Prop :=
  ∃ A c, e = .returned (.agg #[.int .i64 n, .slice A ws.length c]) ∧ Cells w' A (u64s ws) ∧ Ex w w'
def ListE (w : World) (l : List Nat) (code : Int) (e : Ending) (w' : World) : Prop :=
  ∃ A c, e = .returned (.tuple #[.slice A l.length c, .int .i64 code]) ∧ Cells w' A (natsV l) ∧ Ex w w'
def ListR (w : World) (l : List Nat) (e : Ending) (w' : World) : Prop :=
  ∃ A c, e = .returned (.slice A l.length c) ∧ Cells w' A (natsV l) ∧ Ex w w'
theorem NewSetE.setE {w w' : World} {n : Int} {ws : List Nat} {e : Ending} (h : NewSetE w n ws e w') : SetE w n ws 0 e w' := by
  obtain ⟨g, rfl, -, hB, hx⟩ := h
  exact ⟨_, _, rfl, hB.cells, hx⟩
theorem NewSet.setR {w w' : World} {n : Int} {ws : List Nat} {e : Ending} (h : NewSet w n ws e w') : SetR w n ws e w' := by
  obtain ⟨g, rfl, -, hB, hx⟩ := h
  exact ⟨_, _, rfl, hB.cells, hx⟩
theorem Ret.setE {w w' : World} {code : Int} {e : Ending} (h : Ret w (Zero code) e w') : SetE w 0 [] code e w' := by
  obtain ⟨rfl, hx⟩ := h
  exact ⟨none, 0, rfl, Cells.nil _ _, hx⟩
theorem RetOwnE.listE {w w' : World} {l : List Nat} {e : Ending} (h : RetOwnE w (natsV l) e w') : ListE w l 0 e w' := by
  obtain ⟨v, rfl, ho, hx⟩ := h
  obtain ⟨A, c, rfl, hC, -⟩ := own_cells ho
  rw [natsV_length]
  exact ⟨_, _, rfl, hC, hx⟩
theorem RetOwn.listR {w w' : World} {l : List Nat} {e : Ending} (h : RetOwn w (natsV l) e w') : ListR w l e w' := by
  obtain ⟨v, rfl, ho, hx⟩ := h
  obtain ⟨A, c, rfl, hC, -⟩ := own_cells ho
  rw [natsV_length]
  exact ⟨_, _, rfl, hC, hx⟩
theorem eqn_same (A B : Option Addr) (c d : Nat) (l : List Nat) (w : World) (hC : Cells w A (natsV l)) (hD : Cells w B (natsV l)) (hm : l.length ≤ 1000000) :
    Calls Tryd.prog 22 #[.slice A l.length c, .slice B l.length d] w (Ret w (.bool true)) := by
  have e : natsV l = ints (l.map (fun (x : Nat) => (x : Int))) := by simp [natsV, ints]
  rw [e] at hC hD
  have h := eqi_c A B c d (l.map (fun (x : Nat) => (x : Int))) (l.map (fun (x : Nat) => (x : Int))) w hC hD (by simp; omega)
  rw [decide_eq_true rfl, List.length_map] at h
  exact h
theorem same_same (n : Int) (A B : Option Addr) (c d : Nat) (ws : List Nat) (w : World) (hC : Cells w A (u64s ws)) (hD : Cells w B (u64s ws)) (hm : ws.length ≤ 20) :
    Calls Tryd.prog 18 #[.agg #[.int .i64 n, .slice A ws.length c], .agg #[.int .i64 n, .slice B ws.length d]] w (Ret w (.bool true)) := by
  have h := same_c n n A B c d ws ws w hC hD hm
  rw [decide_eq_true rfl, decide_eq_true rfl] at h
  exact h
theorem none_zero (c : Nat) (w : World) : Calls Tryd.prog 17 #[.agg #[.int .i64 0, .slice none 0 c]] w (Ret w (.bool true)) := none_c 0 none 0 c w
theorem nat_list (n : Nat) (l : List Int) (h : ∀ x ∈ l, 0 ≤ x ∧ x < n) : ∃ l' : List Nat, ints l = natsV l' ∧ l.length = l'.length ∧ ∀ x ∈ l', x < n := by
  refine ⟨l.map Int.toNat, ?_, by simp, ?_⟩
  · unfold ints natsV
    rw [List.map_map]
    apply List.map_congr_left
    intro x hx
    have := h x hx
    have e : ((x.toNat : Nat) : Int) = x := by omega
    simp [e]
  · intro y hy
    rw [List.mem_map] at hy
    obtain ⟨x, hx, rfl⟩ := hy
    have := h x hx
    omega

set_option maxHeartbeats 800000 in
theorem forms_guard (N n : Int) (A B : Option Addr) (m c k d : Nat) (w : World) (hT : Tab w) (h : 20 < m ∨ 600 < k) :
    Calls Tryd.prog 3 #[.agg #[.int .i64 N, .slice A m c], .int .i64 n, .slice B k d] w (Ret w (.bool true)) := by
  have HAw := Lib.hid (fun w' (hx : Ex w w') => awake_c w' (hT.ex hx))
  have HF := Lib.hid (fun w' g (hB : Blk w' g 24 [.int .i64 N, .slice A m c]) => few_one w' g 24 N A m c hB)
  clear hT
  by_cases hm : 20 < m
  · rw [decide_eq_false (by omega : ¬ m ≤ 20)] at HF
    clear hm h
    go_enter Tryd.func3, Tryd.ntmps3
    go_wp2_with fail
    refine (HAw.out _ (by repeat (first | exact Ex.refl _ | apply Ex.ext | apply Ex.alloc))).mono ?_
    rintro e w' ⟨rfl, y, rfl⟩
    go_wp2_with fail
    refine (HF.out _ _ (Blk.new' (ext _ y) rfl 24 [.int .i64 N, .slice A m c])).mono ?_
    rintro e w' ⟨rfl, hx⟩
    obtain ⟨z, rfl⟩ := Ex.trans (Ex.alloc ⟨y, rfl⟩ _) hx
    clear hx
    go_wp2_with fail
    refine (HAw.out _ (by repeat (first | exact Ex.refl _ | apply Ex.ext | apply Ex.alloc))).mono ?_
    rintro e w' ⟨rfl, y2, rfl⟩
    go_wp2
    go_ret
    exact Ret.mk rfl ((((Ex.refl _).alloc _).alloc _).ext _ |>.ext _)
  · rw [decide_eq_true (by omega : m ≤ 20)] at HF
    have hk : decide ((600 : Int) < (k : Int)) = true := by simp; omega
    clear hm h
    go_enter Tryd.func3, Tryd.ntmps3
    go_wp2_with fail
    refine (HAw.out _ (by repeat (first | exact Ex.refl _ | apply Ex.ext | apply Ex.alloc))).mono ?_
    rintro e w' ⟨rfl, y, rfl⟩
    go_wp2_with fail
    refine (HF.out _ _ (Blk.new' (ext _ y) rfl 24 [.int .i64 N, .slice A m c])).mono ?_
    rintro e w' ⟨rfl, hx⟩
    obtain ⟨z, rfl⟩ := Ex.trans (Ex.alloc ⟨y, rfl⟩ _) hx
    clear hx
    go_wp2_with fail
    refine (HAw.out _ (by repeat (first | exact Ex.refl _ | apply Ex.ext | apply Ex.alloc))).mono ?_
    rintro e w' ⟨rfl, y2, rfl⟩
    go_wp2
    go_ret
    exact Ret.mk rfl ((((Ex.refl _).alloc _).alloc _).ext _ |>.ext _)

set_option maxHeartbeats 1600000 in
theorem forms_neg_bad (N n : Int) (A B : Option Addr) (c d : Nat) (ws : List Nat) (l : List Int) (w : World) (hT : Tab w) (hC : Cells w A (u64s ws)) (hD : Cells w B (ints l)) (hw : Wd ws) (hm : ws.length ≤ 20) (hl : l.length ≤ 600)
    (h : n < 0) (hv : validB N ws = false) :
    Calls Tryd.prog 3 #[.agg #[.int .i64 N, .slice A ws.length c], .int .i64 n, .slice B l.length d] w (Ret w (.bool true)) := by
  have HAw := Lib.hid (fun w' (hx : Ex w w') => awake_c w' (hT.ex hx))
  have HF := Lib.hid (fun w' g (hB : Blk w' g 24 [.int .i64 N, .slice A ws.length c]) => few_one w' g 24 N A ws.length c hB)
  rw [decide_eq_true hm] at HF
  have hk : decide ((600 : Int) < (l.length : Int)) = false := by simp; omega
  have H20 := Lib.hid (fun w' (hx : Ex w w') => rvalid_c N A c ws w' (hC.ex hx) hw)
  have H21 := Lib.hid (fun w' (hx : Ex w w') => valid_c N A c ws w' (hC.ex hx) hw)
  rw [hv] at H20 H21
  have g1 : decide (n < 0) = true := by simp; omega
  have H13 := Lib.hid (fun w' (hx : Ex w w') => bOf_bad n l B d w' (.inl h) (hD.ex hx) (by omega))
  clear h
  have H14 := Lib.hid (fun w' (hx : Ex w w') => bMembers_bad N A c ws w' (hC.ex hx) hw hv)
  clear hC hD hw hv hT hm hl
  generalize ws.length = m at *
  generalize l.length = k at *
  go_enter Tryd.func3, Tryd.ntmps3
  go_wp2_with fail
  refine (HAw.out _ (by repeat (first | exact Ex.refl _ | apply Ex.ext | apply Ex.alloc))).mono ?_
  rintro e w' ⟨rfl, y, rfl⟩
  go_wp2_with fail
  refine (HF.out _ _ (Blk.new' (ext _ y) rfl 24 [.int .i64 N, .slice A m c])).mono ?_
  rintro e w' ⟨rfl, hx⟩
  obtain ⟨z, rfl⟩ := Ex.trans (Ex.alloc ⟨y, rfl⟩ _) hx
  clear hx HF HAw
  go_wp2_with fail
  refine (H13.out _ (by repeat (first | exact Ex.refl _ | apply Ex.ext | apply Ex.alloc))).mono ?_
  rintro e w1 ⟨rfl, hx⟩; unfold Zero
  have hE := (((Ex.refl w).alloc (.cells #[.int .i64 N, .slice A m c] 24)).alloc (.cells #[.int .i64 n] 3)).trans (Ex.trans ⟨z, rfl⟩ hx)
  have hS := (((Blk.new w 24 [.int .i64 N, .slice A m c]).alloc (.cells #[.int .i64 n] 3)).ex ⟨z, rfl⟩).ex hx
  have hN := ((Blk.new' (w.alloc (.cells #[.int .i64 N, .slice A m c] 24)) (g := w.heap.size + 1) (by simp) 3 [.int .i64 n]).ex ⟨z, rfl⟩).ex hx
  clear hx H13
  have hE2 := hE.alloc (.cells #[.int .i64 0, .slice none 0 0] 24)
  have hS2 := hS.alloc (.cells #[.int .i64 0, .slice none 0 0] 24)
  have hN2 := hN.alloc (.cells #[.int .i64 0, .slice none 0 0] 24)
  have hO2 := Blk.new w1 24 [.int .i64 0, .slice none 0 0]
  have hC8 := Cells.nil w1 none |>.ex ((Ex.refl _).alloc (.cells #[.int .i64 0, .slice none 0 0] 24))
  have hs0 := hS.lt
  have hs1 := hN.lt
  have f0 := hS.cell 0
  have f1 := hS.cell 1
  simp only [List.getElem?_cons_zero, List.getElem?_cons_succ] at f0 f1
  clear hS hN hE
  have HE2 := Lib.hid hE2
  have HS2 := Lib.hid hS2
  have HN2 := Lib.hid hN2
  have HO2 := Lib.hid hO2
  have HC8 := Lib.hid hC8
  clear hE2 hS2 hN2 hO2 hC8
  go_wp2_with fail
  generalize hW2 : w1.alloc (.cells #[.int .i64 0, .slice none 0 0] 24) = W2 at *
  generalize w1.heap.size = b7 at *
  clear hW2 f0 f1 hs0 hs1
  have hs0 := HS2.out.lt
  have hs1 := HN2.out.lt
  have hs2 := HO2.out.lt
  have f0 := HS2.out.cell 0
  have f1 := HS2.out.cell 1
  have f2 := HN2.out.cell 0
  have f3 := HO2.out.cell 0
  have f4 := HO2.out.cell 1
  simp only [List.getElem?_cons_zero, List.getElem?_cons_succ] at f0 f1 f2 f3 f4
  refine (H14.out _ HE2.out).mono ?_
  rintro e W3 ⟨rfl, hx⟩
  have hS3 := HS2.out.ex hx
  have hN3 := HN2.out.ex hx
  have hO3 := HO2.out.ex hx
  have HC83 := Lib.hid (HC8.out.ex hx)
  have HEx := Lib.hid (fun (w' : World) (hy : Ex W3 w') => (HE2.out.trans hx).trans hy)
  clear f0 f1 f2 f3 f4 hs0 hs1 hs2 hx HC8 HS2 HN2 HO2 HE2 H14
  have hs0 := hS3.lt
  have hs1 := hN3.lt
  have hs2 := hO3.lt
  have f0 := hS3.cell 0
  have f1 := hS3.cell 1
  have f2 := hN3.cell 0
  have f3 := hO3.cell 0
  have f4 := hO3.cell 1
  simp only [List.getElem?_cons_zero, List.getElem?_cons_succ] at f0 f1 f2 f3 f4
  clear hS3 hN3 hO3 W2
  go_wp2_with fail
  refine (Calls.up (W := W3) (by repeat (first | exact Ex.refl _ | apply Ex.ext)) (none_zero 0 _)).mono ?_
  rintro e w' ⟨rfl, hx⟩
  obtain ⟨z2, rfl⟩ := hx
  go_wp2_with fail
  refine (Calls.up (W := W3) (by repeat (first | exact Ex.refl _ | apply Ex.ext)) (H20.out _ (HEx.out _ (by repeat (first | exact Ex.refl _ | apply Ex.ext))))).mono ?_
  rintro e w' ⟨rfl, hx⟩
  obtain ⟨z4, rfl⟩ := hx
  go_wp2_with fail
  refine (Calls.up (W := W3) (by repeat (first | exact Ex.refl _ | apply Ex.ext)) (H21.out _ (HEx.out _ (by repeat (first | exact Ex.refl _ | apply Ex.ext))))).mono ?_
  rintro e w' ⟨rfl, hx⟩
  obtain ⟨z5, rfl⟩ := hx
  go_wp2
  go_ret
  exact Ret.mk rfl (HEx.out _ ⟨_, rfl⟩)

set_option maxHeartbeats 1600000 in
theorem forms_neg_good (N n : Int) (A B : Option Addr) (c d : Nat) (ws : List Nat) (l : List Int) (w : World) (hT : Tab w) (hC : Cells w A (u64s ws)) (hD : Cells w B (ints l)) (hw : Wd ws) (hm : ws.length ≤ 20) (hl : l.length ≤ 600)
    (h : n < 0) (hv : validB N ws = true) :
    Calls Tryd.prog 3 #[.agg #[.int .i64 N, .slice A ws.length c], .int .i64 n, .slice B l.length d] w (Ret w (.bool true)) := by
  have HAw := Lib.hid (fun w' (hx : Ex w w') => awake_c w' (hT.ex hx))
  have HF := Lib.hid (fun w' g (hB : Blk w' g 24 [.int .i64 N, .slice A ws.length c]) => few_one w' g 24 N A ws.length c hB)
  rw [decide_eq_true hm] at HF
  have hk : decide ((600 : Int) < (l.length : Int)) = false := by simp; omega
  have H20 := Lib.hid (fun w' (hx : Ex w w') => rvalid_c N A c ws w' (hC.ex hx) hw)
  have H21 := Lib.hid (fun w' (hx : Ex w w') => valid_c N A c ws w' (hC.ex hx) hw)
  rw [hv] at H20 H21
  have g1 : decide (n < 0) = true := by simp; omega
  have H13 := Lib.hid (fun w' (hx : Ex w w') => bOf_bad n l B d w' (.inl h) (hD.ex hx) (by omega))
  clear h
  obtain ⟨p, rfl, hvv⟩ := (validB_iff N ws).1 hv
  have H14 := Lib.hid (fun w' (hx : Ex w w') => (bMembers_ok p A c ws w' (hC.ex hx) hw hvv (hT.ex hx)).mono fun _ _ => RetOwnE.listE)
  have H23 := Lib.hid (fun w' (hx : Ex w w') => (rMembers_c p A c ws w' (hC.ex hx) hw hvv).mono fun _ _ => RetOwn.listR)
  have hml : (mems p ws).length ≤ 1000000 := by have := mems_le p ws; have := hvv.le; omega
  have H22 := Lib.hid (fun A B c d w' hC hD => eqn_same A B c d (mems p ws) w' hC hD hml)
  clear hvv
  generalize mems p ws = ml at *
  generalize (p : Int) = N at *
  clear hC hD hw hv hT hm hl
  generalize ws.length = m at *
  generalize l.length = k at *
  go_enter Tryd.func3, Tryd.ntmps3
  go_wp2_with fail
  refine (HAw.out _ (by repeat (first | exact Ex.refl _ | apply Ex.ext | apply Ex.alloc))).mono ?_
  rintro e w' ⟨rfl, y, rfl⟩
  go_wp2_with fail
  refine (HF.out _ _ (Blk.new' (ext _ y) rfl 24 [.int .i64 N, .slice A m c])).mono ?_
  rintro e w' ⟨rfl, hx⟩
  obtain ⟨z, rfl⟩ := Ex.trans (Ex.alloc ⟨y, rfl⟩ _) hx
  clear hx HF HAw
  go_wp2_with fail
  refine (H13.out _ (by repeat (first | exact Ex.refl _ | apply Ex.ext | apply Ex.alloc))).mono ?_
  rintro e w1 ⟨rfl, hx⟩; unfold Zero
  have hE := (((Ex.refl w).alloc (.cells #[.int .i64 N, .slice A m c] 24)).alloc (.cells #[.int .i64 n] 3)).trans (Ex.trans ⟨z, rfl⟩ hx)
  have hS := (((Blk.new w 24 [.int .i64 N, .slice A m c]).alloc (.cells #[.int .i64 n] 3)).ex ⟨z, rfl⟩).ex hx
  have hN := ((Blk.new' (w.alloc (.cells #[.int .i64 N, .slice A m c] 24)) (g := w.heap.size + 1) (by simp) 3 [.int .i64 n]).ex ⟨z, rfl⟩).ex hx
  clear hx H13
  have hE2 := hE.alloc (.cells #[.int .i64 0, .slice none 0 0] 24)
  have hS2 := hS.alloc (.cells #[.int .i64 0, .slice none 0 0] 24)
  have hN2 := hN.alloc (.cells #[.int .i64 0, .slice none 0 0] 24)
  have hO2 := Blk.new w1 24 [.int .i64 0, .slice none 0 0]
  have hC8 := Cells.nil w1 none |>.ex ((Ex.refl _).alloc (.cells #[.int .i64 0, .slice none 0 0] 24))
  have hs0 := hS.lt
  have hs1 := hN.lt
  have f0 := hS.cell 0
  have f1 := hS.cell 1
  simp only [List.getElem?_cons_zero, List.getElem?_cons_succ] at f0 f1
  clear hS hN hE
  have HE2 := Lib.hid hE2
  have HS2 := Lib.hid hS2
  have HN2 := Lib.hid hN2
  have HO2 := Lib.hid hO2
  have HC8 := Lib.hid hC8
  clear hE2 hS2 hN2 hO2 hC8
  go_wp2_with fail
  generalize hW2 : w1.alloc (.cells #[.int .i64 0, .slice none 0 0] 24) = W2 at *
  generalize w1.heap.size = b7 at *
  clear hW2 f0 f1 hs0 hs1
  have hs0 := HS2.out.lt
  have hs1 := HN2.out.lt
  have hs2 := HO2.out.lt
  have f0 := HS2.out.cell 0
  have f1 := HS2.out.cell 1
  have f2 := HN2.out.cell 0
  have f3 := HO2.out.cell 0
  have f4 := HO2.out.cell 1
  simp only [List.getElem?_cons_zero, List.getElem?_cons_succ] at f0 f1 f2 f3 f4
  refine (H14.out _ HE2.out).mono ?_
  rintro e W3 ⟨A9, c9, rfl, hC9, hx⟩
  have HC9 := Lib.hid hC9
  clear hC9
  have hS3 := HS2.out.ex hx
  have hN3 := HN2.out.ex hx
  have hO3 := HO2.out.ex hx
  have HC83 := Lib.hid (HC8.out.ex hx)
  have HEx := Lib.hid (fun (w' : World) (hy : Ex W3 w') => (HE2.out.trans hx).trans hy)
  clear f0 f1 f2 f3 f4 hs0 hs1 hs2 hx HC8 HS2 HN2 HO2 HE2 H14
  have hs0 := hS3.lt
  have hs1 := hN3.lt
  have hs2 := hO3.lt
  have f0 := hS3.cell 0
  have f1 := hS3.cell 1
  have f2 := hN3.cell 0
  have f3 := hO3.cell 0
  have f4 := hO3.cell 1
  simp only [List.getElem?_cons_zero, List.getElem?_cons_succ] at f0 f1 f2 f3 f4
  clear hS3 hN3 hO3 W2
  go_wp2_with fail
  refine (Calls.up (W := W3) (by repeat (first | exact Ex.refl _ | apply Ex.ext)) (none_zero 0 _)).mono ?_
  rintro e w' ⟨rfl, hx⟩
  obtain ⟨z2, rfl⟩ := hx
  go_wp2_with fail
  refine (Calls.up (W := W3) (by repeat (first | exact Ex.refl _ | apply Ex.ext)) (H20.out _ (HEx.out _ (by repeat (first | exact Ex.refl _ | apply Ex.ext))))).mono ?_
  rintro e w' ⟨rfl, hx⟩
  obtain ⟨z4, rfl⟩ := hx
  go_wp2_with fail
  refine (Calls.up (W := W3) (by repeat (first | exact Ex.refl _ | apply Ex.ext)) (H21.out _ (HEx.out _ (by repeat (first | exact Ex.refl _ | apply Ex.ext))))).mono ?_
  rintro e w' ⟨rfl, hx⟩
  obtain ⟨z5, rfl⟩ := hx
  go_wp2_with fail
  refine (H23.out _ (HEx.out _ (by repeat (first | exact Ex.refl _ | apply Ex.ext)))).mono ?_
  rintro e w' ⟨A3, c3, rfl, hC3, hx⟩
  have hx5 : Ex W3 w' := Ex.trans ⟨_, rfl⟩ hx
  have HC3 := Lib.hid hC3
  clear hx hC3
  obtain ⟨z6, rfl⟩ := hx5
  go_wp2_with fail
  refine (Calls.up (W := W3) (by repeat (first | exact Ex.refl _ | apply Ex.ext)) (H22.out _ _ _ _ _ (HC9.out.ex ⟨_, rfl⟩) HC3.out)).mono ?_
  rintro e w' ⟨rfl, z7, rfl⟩
  go_wp2
  go_ret
  exact Ret.mk rfl (HEx.out _ ⟨_, rfl⟩)

set_option maxHeartbeats 1600000 in
theorem forms_big_bad (N n : Int) (A B : Option Addr) (c d : Nat) (ws : List Nat) (l : List Int) (w : World) (hT : Tab w) (hC : Cells w A (u64s ws)) (hD : Cells w B (ints l)) (hw : Wd ws) (hm : ws.length ≤ 20) (hl : l.length ≤ 600)
    (_h0 : ¬ n < 0) (h : 512 < n) (hv : validB N ws = false) :
    Calls Tryd.prog 3 #[.agg #[.int .i64 N, .slice A ws.length c], .int .i64 n, .slice B l.length d] w (Ret w (.bool true)) := by
  have HAw := Lib.hid (fun w' (hx : Ex w w') => awake_c w' (hT.ex hx))
  have HF := Lib.hid (fun w' g (hB : Blk w' g 24 [.int .i64 N, .slice A ws.length c]) => few_one w' g 24 N A ws.length c hB)
  rw [decide_eq_true hm] at HF
  have hk : decide ((600 : Int) < (l.length : Int)) = false := by simp; omega
  have H20 := Lib.hid (fun w' (hx : Ex w w') => rvalid_c N A c ws w' (hC.ex hx) hw)
  have H21 := Lib.hid (fun w' (hx : Ex w w') => valid_c N A c ws w' (hC.ex hx) hw)
  rw [hv] at H20 H21
  have g1 : decide (n < 0) = false := by simp; omega
  have g2 : decide (512 < n) = true := by simp; omega
  have H13 := Lib.hid (fun w' (hx : Ex w w') => bOf_bad n l B d w' (.inr (.inl h)) (hD.ex hx) (by omega))
  clear h _h0
  have H14 := Lib.hid (fun w' (hx : Ex w w') => bMembers_bad N A c ws w' (hC.ex hx) hw hv)
  clear hC hD hw hv hT hm hl
  generalize ws.length = m at *
  generalize l.length = k at *
  go_enter Tryd.func3, Tryd.ntmps3
  go_wp2_with fail
  refine (HAw.out _ (by repeat (first | exact Ex.refl _ | apply Ex.ext | apply Ex.alloc))).mono ?_
  rintro e w' ⟨rfl, y, rfl⟩
  go_wp2_with fail
  refine (HF.out _ _ (Blk.new' (ext _ y) rfl 24 [.int .i64 N, .slice A m c])).mono ?_
  rintro e w' ⟨rfl, hx⟩
  obtain ⟨z, rfl⟩ := Ex.trans (Ex.alloc ⟨y, rfl⟩ _) hx
  clear hx HF HAw
  go_wp2_with fail
  refine (H13.out _ (by repeat (first | exact Ex.refl _ | apply Ex.ext | apply Ex.alloc))).mono ?_
  rintro e w1 ⟨rfl, hx⟩; unfold Zero
  have hE := (((Ex.refl w).alloc (.cells #[.int .i64 N, .slice A m c] 24)).alloc (.cells #[.int .i64 n] 3)).trans (Ex.trans ⟨z, rfl⟩ hx)
  have hS := (((Blk.new w 24 [.int .i64 N, .slice A m c]).alloc (.cells #[.int .i64 n] 3)).ex ⟨z, rfl⟩).ex hx
  have hN := ((Blk.new' (w.alloc (.cells #[.int .i64 N, .slice A m c] 24)) (g := w.heap.size + 1) (by simp) 3 [.int .i64 n]).ex ⟨z, rfl⟩).ex hx
  clear hx H13
  have hE2 := hE.alloc (.cells #[.int .i64 0, .slice none 0 0] 24)
  have hS2 := hS.alloc (.cells #[.int .i64 0, .slice none 0 0] 24)
  have hN2 := hN.alloc (.cells #[.int .i64 0, .slice none 0 0] 24)
  have hO2 := Blk.new w1 24 [.int .i64 0, .slice none 0 0]
  have hC8 := Cells.nil w1 none |>.ex ((Ex.refl _).alloc (.cells #[.int .i64 0, .slice none 0 0] 24))
  have hs0 := hS.lt
  have hs1 := hN.lt
  have f0 := hS.cell 0
  have f1 := hS.cell 1
  simp only [List.getElem?_cons_zero, List.getElem?_cons_succ] at f0 f1
  clear hS hN hE
  have HE2 := Lib.hid hE2
  have HS2 := Lib.hid hS2
  have HN2 := Lib.hid hN2
  have HO2 := Lib.hid hO2
  have HC8 := Lib.hid hC8
  clear hE2 hS2 hN2 hO2 hC8
  go_wp2_with fail
  generalize hW2 : w1.alloc (.cells #[.int .i64 0, .slice none 0 0] 24) = W2 at *
  generalize w1.heap.size = b7 at *
  clear hW2 f0 f1 hs0 hs1
  have hs0 := HS2.out.lt
  have hs1 := HN2.out.lt
  have hs2 := HO2.out.lt
  have f0 := HS2.out.cell 0
  have f1 := HS2.out.cell 1
  have f2 := HN2.out.cell 0
  have f3 := HO2.out.cell 0
  have f4 := HO2.out.cell 1
  simp only [List.getElem?_cons_zero, List.getElem?_cons_succ] at f0 f1 f2 f3 f4
  refine (H14.out _ HE2.out).mono ?_
  rintro e W3 ⟨rfl, hx⟩
  have hS3 := HS2.out.ex hx
  have hN3 := HN2.out.ex hx
  have hO3 := HO2.out.ex hx
  have HC83 := Lib.hid (HC8.out.ex hx)
  have HEx := Lib.hid (fun (w' : World) (hy : Ex W3 w') => (HE2.out.trans hx).trans hy)
  clear f0 f1 f2 f3 f4 hs0 hs1 hs2 hx HC8 HS2 HN2 HO2 HE2 H14
  have hs0 := hS3.lt
  have hs1 := hN3.lt
  have hs2 := hO3.lt
  have f0 := hS3.cell 0
  have f1 := hS3.cell 1
  have f2 := hN3.cell 0
  have f3 := hO3.cell 0
  have f4 := hO3.cell 1
  simp only [List.getElem?_cons_zero, List.getElem?_cons_succ] at f0 f1 f2 f3 f4
  clear hS3 hN3 hO3 W2
  go_wp2_with fail
  refine (Calls.up (W := W3) (by repeat (first | exact Ex.refl _ | apply Ex.ext)) (none_zero 0 _)).mono ?_
  rintro e w' ⟨rfl, hx⟩
  obtain ⟨z2, rfl⟩ := hx
  go_wp2_with fail
  refine (Calls.up (W := W3) (by repeat (first | exact Ex.refl _ | apply Ex.ext)) (H20.out _ (HEx.out _ (by repeat (first | exact Ex.refl _ | apply Ex.ext))))).mono ?_
  rintro e w' ⟨rfl, hx⟩
  obtain ⟨z4, rfl⟩ := hx
  go_wp2_with fail
  refine (Calls.up (W := W3) (by repeat (first | exact Ex.refl _ | apply Ex.ext)) (H21.out _ (HEx.out _ (by repeat (first | exact Ex.refl _ | apply Ex.ext))))).mono ?_
  rintro e w' ⟨rfl, hx⟩
  obtain ⟨z5, rfl⟩ := hx
  go_wp2
  go_ret
  exact Ret.mk rfl (HEx.out _ ⟨_, rfl⟩)

set_option maxHeartbeats 1600000 in
theorem forms_big_good (N n : Int) (A B : Option Addr) (c d : Nat) (ws : List Nat) (l : List Int) (w : World) (hT : Tab w) (hC : Cells w A (u64s ws)) (hD : Cells w B (ints l)) (hw : Wd ws) (hm : ws.length ≤ 20) (hl : l.length ≤ 600)
    (_h0 : ¬ n < 0) (h : 512 < n) (hv : validB N ws = true) :
    Calls Tryd.prog 3 #[.agg #[.int .i64 N, .slice A ws.length c], .int .i64 n, .slice B l.length d] w (Ret w (.bool true)) := by
  have HAw := Lib.hid (fun w' (hx : Ex w w') => awake_c w' (hT.ex hx))
  have HF := Lib.hid (fun w' g (hB : Blk w' g 24 [.int .i64 N, .slice A ws.length c]) => few_one w' g 24 N A ws.length c hB)
  rw [decide_eq_true hm] at HF
  have hk : decide ((600 : Int) < (l.length : Int)) = false := by simp; omega
  have H20 := Lib.hid (fun w' (hx : Ex w w') => rvalid_c N A c ws w' (hC.ex hx) hw)
  have H21 := Lib.hid (fun w' (hx : Ex w w') => valid_c N A c ws w' (hC.ex hx) hw)
  rw [hv] at H20 H21
  have g1 : decide (n < 0) = false := by simp; omega
  have g2 : decide (512 < n) = true := by simp; omega
  have H13 := Lib.hid (fun w' (hx : Ex w w') => bOf_bad n l B d w' (.inr (.inl h)) (hD.ex hx) (by omega))
  clear h _h0
  obtain ⟨p, rfl, hvv⟩ := (validB_iff N ws).1 hv
  have H14 := Lib.hid (fun w' (hx : Ex w w') => (bMembers_ok p A c ws w' (hC.ex hx) hw hvv (hT.ex hx)).mono fun _ _ => RetOwnE.listE)
  have H23 := Lib.hid (fun w' (hx : Ex w w') => (rMembers_c p A c ws w' (hC.ex hx) hw hvv).mono fun _ _ => RetOwn.listR)
  have hml : (mems p ws).length ≤ 1000000 := by have := mems_le p ws; have := hvv.le; omega
  have H22 := Lib.hid (fun A B c d w' hC hD => eqn_same A B c d (mems p ws) w' hC hD hml)
  clear hvv
  generalize mems p ws = ml at *
  generalize (p : Int) = N at *
  clear hC hD hw hv hT hm hl
  generalize ws.length = m at *
  generalize l.length = k at *
  go_enter Tryd.func3, Tryd.ntmps3
  go_wp2_with fail
  refine (HAw.out _ (by repeat (first | exact Ex.refl _ | apply Ex.ext | apply Ex.alloc))).mono ?_
  rintro e w' ⟨rfl, y, rfl⟩
  go_wp2_with fail
  refine (HF.out _ _ (Blk.new' (ext _ y) rfl 24 [.int .i64 N, .slice A m c])).mono ?_
  rintro e w' ⟨rfl, hx⟩
  obtain ⟨z, rfl⟩ := Ex.trans (Ex.alloc ⟨y, rfl⟩ _) hx
  clear hx HF HAw
  go_wp2_with fail
  refine (H13.out _ (by repeat (first | exact Ex.refl _ | apply Ex.ext | apply Ex.alloc))).mono ?_
  rintro e w1 ⟨rfl, hx⟩; unfold Zero
  have hE := (((Ex.refl w).alloc (.cells #[.int .i64 N, .slice A m c] 24)).alloc (.cells #[.int .i64 n] 3)).trans (Ex.trans ⟨z, rfl⟩ hx)
  have hS := (((Blk.new w 24 [.int .i64 N, .slice A m c]).alloc (.cells #[.int .i64 n] 3)).ex ⟨z, rfl⟩).ex hx
  have hN := ((Blk.new' (w.alloc (.cells #[.int .i64 N, .slice A m c] 24)) (g := w.heap.size + 1) (by simp) 3 [.int .i64 n]).ex ⟨z, rfl⟩).ex hx
  clear hx H13
  have hE2 := hE.alloc (.cells #[.int .i64 0, .slice none 0 0] 24)
  have hS2 := hS.alloc (.cells #[.int .i64 0, .slice none 0 0] 24)
  have hN2 := hN.alloc (.cells #[.int .i64 0, .slice none 0 0] 24)
  have hO2 := Blk.new w1 24 [.int .i64 0, .slice none 0 0]
  have hC8 := Cells.nil w1 none |>.ex ((Ex.refl _).alloc (.cells #[.int .i64 0, .slice none 0 0] 24))
  have hs0 := hS.lt
  have hs1 := hN.lt
  have f0 := hS.cell 0
  have f1 := hS.cell 1
  simp only [List.getElem?_cons_zero, List.getElem?_cons_succ] at f0 f1
  clear hS hN hE
  have HE2 := Lib.hid hE2
  have HS2 := Lib.hid hS2
  have HN2 := Lib.hid hN2
  have HO2 := Lib.hid hO2
  have HC8 := Lib.hid hC8
  clear hE2 hS2 hN2 hO2 hC8
  go_wp2_with fail
  generalize hW2 : w1.alloc (.cells #[.int .i64 0, .slice none 0 0] 24) = W2 at *
  generalize w1.heap.size = b7 at *
  clear hW2 f0 f1 hs0 hs1
  have hs0 := HS2.out.lt
  have hs1 := HN2.out.lt
  have hs2 := HO2.out.lt
  have f0 := HS2.out.cell 0
  have f1 := HS2.out.cell 1
  have f2 := HN2.out.cell 0
  have f3 := HO2.out.cell 0
  have f4 := HO2.out.cell 1
  simp only [List.getElem?_cons_zero, List.getElem?_cons_succ] at f0 f1 f2 f3 f4
  refine (H14.out _ HE2.out).mono ?_
  rintro e W3 ⟨A9, c9, rfl, hC9, hx⟩
  have HC9 := Lib.hid hC9
  clear hC9
  have hS3 := HS2.out.ex hx
  have hN3 := HN2.out.ex hx
  have hO3 := HO2.out.ex hx
  have HC83 := Lib.hid (HC8.out.ex hx)
  have HEx := Lib.hid (fun (w' : World) (hy : Ex W3 w') => (HE2.out.trans hx).trans hy)
  clear f0 f1 f2 f3 f4 hs0 hs1 hs2 hx HC8 HS2 HN2 HO2 HE2 H14
  have hs0 := hS3.lt
  have hs1 := hN3.lt
  have hs2 := hO3.lt
  have f0 := hS3.cell 0
  have f1 := hS3.cell 1
  have f2 := hN3.cell 0
  have f3 := hO3.cell 0
  have f4 := hO3.cell 1
  simp only [List.getElem?_cons_zero, List.getElem?_cons_succ] at f0 f1 f2 f3 f4
  clear hS3 hN3 hO3 W2
  go_wp2_with fail
  refine (Calls.up (W := W3) (by repeat (first | exact Ex.refl _ | apply Ex.ext)) (none_zero 0 _)).mono ?_
  rintro e w' ⟨rfl, hx⟩
  obtain ⟨z2, rfl⟩ := hx
  go_wp2_with fail
  refine (Calls.up (W := W3) (by repeat (first | exact Ex.refl _ | apply Ex.ext)) (H20.out _ (HEx.out _ (by repeat (first | exact Ex.refl _ | apply Ex.ext))))).mono ?_
  rintro e w' ⟨rfl, hx⟩
  obtain ⟨z4, rfl⟩ := hx
  go_wp2_with fail
  refine (Calls.up (W := W3) (by repeat (first | exact Ex.refl _ | apply Ex.ext)) (H21.out _ (HEx.out _ (by repeat (first | exact Ex.refl _ | apply Ex.ext))))).mono ?_
  rintro e w' ⟨rfl, hx⟩
  obtain ⟨z5, rfl⟩ := hx
  go_wp2_with fail
  refine (H23.out _ (HEx.out _ (by repeat (first | exact Ex.refl _ | apply Ex.ext)))).mono ?_
  rintro e w' ⟨A3, c3, rfl, hC3, hx⟩
  have hx5 : Ex W3 w' := Ex.trans ⟨_, rfl⟩ hx
  have HC3 := Lib.hid hC3
  clear hx hC3
  obtain ⟨z6, rfl⟩ := hx5
  go_wp2_with fail
  refine (Calls.up (W := W3) (by repeat (first | exact Ex.refl _ | apply Ex.ext)) (H22.out _ _ _ _ _ (HC9.out.ex ⟨_, rfl⟩) HC3.out)).mono ?_
  rintro e w' ⟨rfl, z7, rfl⟩
  go_wp2
  go_ret
  exact Ret.mk rfl (HEx.out _ ⟨_, rfl⟩)

set_option maxHeartbeats 1600000 in
theorem forms_has_bad (N n : Int) (A B : Option Addr) (c d : Nat) (ws : List Nat) (l : List Int) (w : World) (hT : Tab w) (hC : Cells w A (u64s ws)) (hD : Cells w B (ints l)) (hw : Wd ws) (hm : ws.length ≤ 20) (hl : l.length ≤ 600)
    (h0 : ¬ n < 0) (h1 : ¬ 512 < n) (h : l.any (outB n) = true) (hv : validB N ws = false) :
    Calls Tryd.prog 3 #[.agg #[.int .i64 N, .slice A ws.length c], .int .i64 n, .slice B l.length d] w (Ret w (.bool true)) := by
  have HAw := Lib.hid (fun w' (hx : Ex w w') => awake_c w' (hT.ex hx))
  have HF := Lib.hid (fun w' g (hB : Blk w' g 24 [.int .i64 N, .slice A ws.length c]) => few_one w' g 24 N A ws.length c hB)
  rw [decide_eq_true hm] at HF
  have hk : decide ((600 : Int) < (l.length : Int)) = false := by simp; omega
  have H20 := Lib.hid (fun w' (hx : Ex w w') => rvalid_c N A c ws w' (hC.ex hx) hw)
  have H21 := Lib.hid (fun w' (hx : Ex w w') => valid_c N A c ws w' (hC.ex hx) hw)
  rw [hv] at H20 H21
  have g1 : decide (n < 0) = false := by simp; omega
  have g2 : decide (512 < n) = false := by simp; omega
  have hbad : ∃ x ∈ l, ¬ (0 ≤ x ∧ x < n) := by
    obtain ⟨x, hx, h2⟩ := List.any_eq_true.1 h
    exact ⟨x, hx, by simp [outB] at h2; omega⟩
  have H15 := Lib.hid (fun w' b (hx : Ex w w') (hc : w'.cell? ⟨b, 0, none⟩ = some (.int .i64 n)) (hb : b < w'.heap.size) => contains_c n l B d b w' (hD.ex hx) (by omega) hc hb)
  rw [h] at H15
  have H13 := Lib.hid (fun w' (hx : Ex w w') => bOf_bad n l B d w' (.inr (.inr hbad)) (hD.ex hx) (by omega))
  clear h h0 h1 hbad
  have H14 := Lib.hid (fun w' (hx : Ex w w') => bMembers_bad N A c ws w' (hC.ex hx) hw hv)
  clear hC hD hw hv hT hm hl
  generalize ws.length = m at *
  generalize l.length = k at *
  go_enter Tryd.func3, Tryd.ntmps3
  go_wp2_with fail
  refine (HAw.out _ (by repeat (first | exact Ex.refl _ | apply Ex.ext | apply Ex.alloc))).mono ?_
  rintro e w' ⟨rfl, y, rfl⟩
  go_wp2_with fail
  refine (HF.out _ _ (Blk.new' (ext _ y) rfl 24 [.int .i64 N, .slice A m c])).mono ?_
  rintro e w' ⟨rfl, hx⟩
  obtain ⟨z, rfl⟩ := Ex.trans (Ex.alloc ⟨y, rfl⟩ _) hx
  clear hx HF HAw
  go_wp2_with fail
  refine (H13.out _ (by repeat (first | exact Ex.refl _ | apply Ex.ext | apply Ex.alloc))).mono ?_
  rintro e w1 ⟨rfl, hx⟩; unfold Zero
  have hE := (((Ex.refl w).alloc (.cells #[.int .i64 N, .slice A m c] 24)).alloc (.cells #[.int .i64 n] 3)).trans (Ex.trans ⟨z, rfl⟩ hx)
  have hS := (((Blk.new w 24 [.int .i64 N, .slice A m c]).alloc (.cells #[.int .i64 n] 3)).ex ⟨z, rfl⟩).ex hx
  have hN := ((Blk.new' (w.alloc (.cells #[.int .i64 N, .slice A m c] 24)) (g := w.heap.size + 1) (by simp) 3 [.int .i64 n]).ex ⟨z, rfl⟩).ex hx
  clear hx H13
  have hE2 := hE.alloc (.cells #[.int .i64 0, .slice none 0 0] 24)
  have hS2 := hS.alloc (.cells #[.int .i64 0, .slice none 0 0] 24)
  have hN2 := hN.alloc (.cells #[.int .i64 0, .slice none 0 0] 24)
  have hO2 := Blk.new w1 24 [.int .i64 0, .slice none 0 0]
  have hC8 := Cells.nil w1 none |>.ex ((Ex.refl _).alloc (.cells #[.int .i64 0, .slice none 0 0] 24))
  have hs0 := hS.lt
  have hs1 := hN.lt
  have f0 := hS.cell 0
  have f1 := hS.cell 1
  simp only [List.getElem?_cons_zero, List.getElem?_cons_succ] at f0 f1
  clear hS hN hE
  have HE2 := Lib.hid hE2
  have HS2 := Lib.hid hS2
  have HN2 := Lib.hid hN2
  have HO2 := Lib.hid hO2
  have HC8 := Lib.hid hC8
  clear hE2 hS2 hN2 hO2 hC8
  go_wp2_with fail
  generalize hW2 : w1.alloc (.cells #[.int .i64 0, .slice none 0 0] 24) = W2 at *
  generalize w1.heap.size = b7 at *
  clear hW2 f0 f1 hs0 hs1
  have hs0 := HS2.out.lt
  have hs1 := HN2.out.lt
  have hs2 := HO2.out.lt
  have f0 := HS2.out.cell 0
  have f1 := HS2.out.cell 1
  have f2 := HN2.out.cell 0
  have f3 := HO2.out.cell 0
  have f4 := HO2.out.cell 1
  simp only [List.getElem?_cons_zero, List.getElem?_cons_succ] at f0 f1 f2 f3 f4
  refine (H14.out _ HE2.out).mono ?_
  rintro e W3 ⟨rfl, hx⟩
  have hS3 := HS2.out.ex hx
  have hN3 := HN2.out.ex hx
  have hO3 := HO2.out.ex hx
  have HC83 := Lib.hid (HC8.out.ex hx)
  have HEx := Lib.hid (fun (w' : World) (hy : Ex W3 w') => (HE2.out.trans hx).trans hy)
  clear f0 f1 f2 f3 f4 hs0 hs1 hs2 hx HC8 HS2 HN2 HO2 HE2 H14
  have hs0 := hS3.lt
  have hs1 := hN3.lt
  have hs2 := hO3.lt
  have f0 := hS3.cell 0
  have f1 := hS3.cell 1
  have f2 := hN3.cell 0
  have f3 := hO3.cell 0
  have f4 := hO3.cell 1
  simp only [List.getElem?_cons_zero, List.getElem?_cons_succ] at f0 f1 f2 f3 f4
  clear hS3 hN3 hO3 W2
  go_wp2_with fail
  refine (Calls.up (W := W3) (by repeat (first | exact Ex.refl _ | apply Ex.ext)) (H15.out _ _ (HEx.out _ (by repeat (first | exact Ex.refl _ | apply Ex.ext))) f2 hs1)).mono ?_
  rintro e w' ⟨rfl, z1, rfl⟩
  go_wp2_with fail
  refine (Calls.up (W := W3) (by repeat (first | exact Ex.refl _ | apply Ex.ext)) (none_zero 0 _)).mono ?_
  rintro e w' ⟨rfl, hx⟩
  obtain ⟨z2, rfl⟩ := hx
  go_wp2_with fail
  refine (Calls.up (W := W3) (by repeat (first | exact Ex.refl _ | apply Ex.ext)) (H20.out _ (HEx.out _ (by repeat (first | exact Ex.refl _ | apply Ex.ext))))).mono ?_
  rintro e w' ⟨rfl, hx⟩
  obtain ⟨z4, rfl⟩ := hx
  go_wp2_with fail
  refine (Calls.up (W := W3) (by repeat (first | exact Ex.refl _ | apply Ex.ext)) (H21.out _ (HEx.out _ (by repeat (first | exact Ex.refl _ | apply Ex.ext))))).mono ?_
  rintro e w' ⟨rfl, hx⟩
  obtain ⟨z5, rfl⟩ := hx
  go_wp2
  go_ret
  exact Ret.mk rfl (HEx.out _ ⟨_, rfl⟩)

set_option maxHeartbeats 1600000 in
theorem forms_has_good (N n : Int) (A B : Option Addr) (c d : Nat) (ws : List Nat) (l : List Int) (w : World) (hT : Tab w) (hC : Cells w A (u64s ws)) (hD : Cells w B (ints l)) (hw : Wd ws) (hm : ws.length ≤ 20) (hl : l.length ≤ 600)
    (h0 : ¬ n < 0) (h1 : ¬ 512 < n) (h : l.any (outB n) = true) (hv : validB N ws = true) :
    Calls Tryd.prog 3 #[.agg #[.int .i64 N, .slice A ws.length c], .int .i64 n, .slice B l.length d] w (Ret w (.bool true)) := by
  have HAw := Lib.hid (fun w' (hx : Ex w w') => awake_c w' (hT.ex hx))
  have HF := Lib.hid (fun w' g (hB : Blk w' g 24 [.int .i64 N, .slice A ws.length c]) => few_one w' g 24 N A ws.length c hB)
  rw [decide_eq_true hm] at HF
  have hk : decide ((600 : Int) < (l.length : Int)) = false := by simp; omega
  have H20 := Lib.hid (fun w' (hx : Ex w w') => rvalid_c N A c ws w' (hC.ex hx) hw)
  have H21 := Lib.hid (fun w' (hx : Ex w w') => valid_c N A c ws w' (hC.ex hx) hw)
  rw [hv] at H20 H21
  have g1 : decide (n < 0) = false := by simp; omega
  have g2 : decide (512 < n) = false := by simp; omega
  have hbad : ∃ x ∈ l, ¬ (0 ≤ x ∧ x < n) := by
    obtain ⟨x, hx, h2⟩ := List.any_eq_true.1 h
    exact ⟨x, hx, by simp [outB] at h2; omega⟩
  have H15 := Lib.hid (fun w' b (hx : Ex w w') (hc : w'.cell? ⟨b, 0, none⟩ = some (.int .i64 n)) (hb : b < w'.heap.size) => contains_c n l B d b w' (hD.ex hx) (by omega) hc hb)
  rw [h] at H15
  have H13 := Lib.hid (fun w' (hx : Ex w w') => bOf_bad n l B d w' (.inr (.inr hbad)) (hD.ex hx) (by omega))
  clear h h0 h1 hbad
  obtain ⟨p, rfl, hvv⟩ := (validB_iff N ws).1 hv
  have H14 := Lib.hid (fun w' (hx : Ex w w') => (bMembers_ok p A c ws w' (hC.ex hx) hw hvv (hT.ex hx)).mono fun _ _ => RetOwnE.listE)
  have H23 := Lib.hid (fun w' (hx : Ex w w') => (rMembers_c p A c ws w' (hC.ex hx) hw hvv).mono fun _ _ => RetOwn.listR)
  have hml : (mems p ws).length ≤ 1000000 := by have := mems_le p ws; have := hvv.le; omega
  have H22 := Lib.hid (fun A B c d w' hC hD => eqn_same A B c d (mems p ws) w' hC hD hml)
  clear hvv
  generalize mems p ws = ml at *
  generalize (p : Int) = N at *
  clear hC hD hw hv hT hm hl
  generalize ws.length = m at *
  generalize l.length = k at *
  go_enter Tryd.func3, Tryd.ntmps3
  go_wp2_with fail
  refine (HAw.out _ (by repeat (first | exact Ex.refl _ | apply Ex.ext | apply Ex.alloc))).mono ?_
  rintro e w' ⟨rfl, y, rfl⟩
  go_wp2_with fail
  refine (HF.out _ _ (Blk.new' (ext _ y) rfl 24 [.int .i64 N, .slice A m c])).mono ?_
  rintro e w' ⟨rfl, hx⟩
  obtain ⟨z, rfl⟩ := Ex.trans (Ex.alloc ⟨y, rfl⟩ _) hx
  clear hx HF HAw
  go_wp2_with fail
  refine (H13.out _ (by repeat (first | exact Ex.refl _ | apply Ex.ext | apply Ex.alloc))).mono ?_
  rintro e w1 ⟨rfl, hx⟩; unfold Zero
  have hE := (((Ex.refl w).alloc (.cells #[.int .i64 N, .slice A m c] 24)).alloc (.cells #[.int .i64 n] 3)).trans (Ex.trans ⟨z, rfl⟩ hx)
  have hS := (((Blk.new w 24 [.int .i64 N, .slice A m c]).alloc (.cells #[.int .i64 n] 3)).ex ⟨z, rfl⟩).ex hx
  have hN := ((Blk.new' (w.alloc (.cells #[.int .i64 N, .slice A m c] 24)) (g := w.heap.size + 1) (by simp) 3 [.int .i64 n]).ex ⟨z, rfl⟩).ex hx
  clear hx H13
  have hE2 := hE.alloc (.cells #[.int .i64 0, .slice none 0 0] 24)
  have hS2 := hS.alloc (.cells #[.int .i64 0, .slice none 0 0] 24)
  have hN2 := hN.alloc (.cells #[.int .i64 0, .slice none 0 0] 24)
  have hO2 := Blk.new w1 24 [.int .i64 0, .slice none 0 0]
  have hC8 := Cells.nil w1 none |>.ex ((Ex.refl _).alloc (.cells #[.int .i64 0, .slice none 0 0] 24))
  have hs0 := hS.lt
  have hs1 := hN.lt
  have f0 := hS.cell 0
  have f1 := hS.cell 1
  simp only [List.getElem?_cons_zero, List.getElem?_cons_succ] at f0 f1
  clear hS hN hE
  have HE2 := Lib.hid hE2
  have HS2 := Lib.hid hS2
  have HN2 := Lib.hid hN2
  have HO2 := Lib.hid hO2
  have HC8 := Lib.hid hC8
  clear hE2 hS2 hN2 hO2 hC8
  go_wp2_with fail
  generalize hW2 : w1.alloc (.cells #[.int .i64 0, .slice none 0 0] 24) = W2 at *
  generalize w1.heap.size = b7 at *
  clear hW2 f0 f1 hs0 hs1
  have hs0 := HS2.out.lt
  have hs1 := HN2.out.lt
  have hs2 := HO2.out.lt
  have f0 := HS2.out.cell 0
  have f1 := HS2.out.cell 1
  have f2 := HN2.out.cell 0
  have f3 := HO2.out.cell 0
  have f4 := HO2.out.cell 1
  simp only [List.getElem?_cons_zero, List.getElem?_cons_succ] at f0 f1 f2 f3 f4
  refine (H14.out _ HE2.out).mono ?_
  rintro e W3 ⟨A9, c9, rfl, hC9, hx⟩
  have HC9 := Lib.hid hC9
  clear hC9
  have hS3 := HS2.out.ex hx
  have hN3 := HN2.out.ex hx
  have hO3 := HO2.out.ex hx
  have HC83 := Lib.hid (HC8.out.ex hx)
  have HEx := Lib.hid (fun (w' : World) (hy : Ex W3 w') => (HE2.out.trans hx).trans hy)
  clear f0 f1 f2 f3 f4 hs0 hs1 hs2 hx HC8 HS2 HN2 HO2 HE2 H14
  have hs0 := hS3.lt
  have hs1 := hN3.lt
  have hs2 := hO3.lt
  have f0 := hS3.cell 0
  have f1 := hS3.cell 1
  have f2 := hN3.cell 0
  have f3 := hO3.cell 0
  have f4 := hO3.cell 1
  simp only [List.getElem?_cons_zero, List.getElem?_cons_succ] at f0 f1 f2 f3 f4
  clear hS3 hN3 hO3 W2
  go_wp2_with fail
  refine (Calls.up (W := W3) (by repeat (first | exact Ex.refl _ | apply Ex.ext)) (H15.out _ _ (HEx.out _ (by repeat (first | exact Ex.refl _ | apply Ex.ext))) f2 hs1)).mono ?_
  rintro e w' ⟨rfl, z1, rfl⟩
  go_wp2_with fail
  refine (Calls.up (W := W3) (by repeat (first | exact Ex.refl _ | apply Ex.ext)) (none_zero 0 _)).mono ?_
  rintro e w' ⟨rfl, hx⟩
  obtain ⟨z2, rfl⟩ := hx
  go_wp2_with fail
  refine (Calls.up (W := W3) (by repeat (first | exact Ex.refl _ | apply Ex.ext)) (H20.out _ (HEx.out _ (by repeat (first | exact Ex.refl _ | apply Ex.ext))))).mono ?_
  rintro e w' ⟨rfl, hx⟩
  obtain ⟨z4, rfl⟩ := hx
  go_wp2_with fail
  refine (Calls.up (W := W3) (by repeat (first | exact Ex.refl _ | apply Ex.ext)) (H21.out _ (HEx.out _ (by repeat (first | exact Ex.refl _ | apply Ex.ext))))).mono ?_
  rintro e w' ⟨rfl, hx⟩
  obtain ⟨z5, rfl⟩ := hx
  go_wp2_with fail
  refine (H23.out _ (HEx.out _ (by repeat (first | exact Ex.refl _ | apply Ex.ext)))).mono ?_
  rintro e w' ⟨A3, c3, rfl, hC3, hx⟩
  have hx5 : Ex W3 w' := Ex.trans ⟨_, rfl⟩ hx
  have HC3 := Lib.hid hC3
  clear hx hC3
  obtain ⟨z6, rfl⟩ := hx5
  go_wp2_with fail
  refine (Calls.up (W := W3) (by repeat (first | exact Ex.refl _ | apply Ex.ext)) (H22.out _ _ _ _ _ (HC9.out.ex ⟨_, rfl⟩) HC3.out)).mono ?_
  rintro e w' ⟨rfl, z7, rfl⟩
  go_wp2
  go_ret
  exact Ret.mk rfl (HEx.out _ ⟨_, rfl⟩)

set_option maxHeartbeats 1600000 in
theorem forms_ok_bad (N n : Int) (A B : Option Addr) (c d : Nat) (ws : List Nat) (l : List Int) (w : World) (hT : Tab w) (hC : Cells w A (u64s ws)) (hD : Cells w B (ints l)) (hw : Wd ws) (hm : ws.length ≤ 20) (hl : l.length ≤ 600)
    (h0 : ¬ n < 0) (h1 : ¬ 512 < n) (h : l.any (outB n) = false) (hv : validB N ws = false) :
    Calls Tryd.prog 3 #[.agg #[.int .i64 N, .slice A ws.length c], .int .i64 n, .slice B l.length d] w (Ret w (.bool true)) := by
  have HAw := Lib.hid (fun w' (hx : Ex w w') => awake_c w' (hT.ex hx))
  have HF := Lib.hid (fun w' g (hB : Blk w' g 24 [.int .i64 N, .slice A ws.length c]) => few_one w' g 24 N A ws.length c hB)
  rw [decide_eq_true hm] at HF
  have hk : decide ((600 : Int) < (l.length : Int)) = false := by simp; omega
  have H20 := Lib.hid (fun w' (hx : Ex w w') => rvalid_c N A c ws w' (hC.ex hx) hw)
  have H21 := Lib.hid (fun w' (hx : Ex w w') => valid_c N A c ws w' (hC.ex hx) hw)
  rw [hv] at H20 H21
  have g1 : decide (n < 0) = false := by simp; omega
  have g2 : decide (512 < n) = false := by simp; omega
  obtain ⟨q, rfl⟩ : ∃ q : Nat, n = q := ⟨n.toNat, by omega⟩
  obtain ⟨l', hl1, hl2, hl3⟩ := nat_list q l (fun x hx => by
    have h2 := List.any_eq_false.1 h x hx
    simp [outB] at h2; omega)
  have H15 := Lib.hid (fun w' b (hx : Ex w w') (hc : w'.cell? ⟨b, 0, none⟩ = some (.int .i64 q)) (hb : b < w'.heap.size) => contains_c q l B d b w' (hD.ex hx) (by omega) hc hb)
  rw [h] at H15
  rw [hl1] at hD
  have H13 := Lib.hid (fun w' (hx : Ex w w') => (bOf_ok q l' B d w' (by omega) hl3 (hD.ex hx) (by omega)).mono fun _ _ => NewSetE.setE)
  have H19 := Lib.hid (fun w' (hx : Ex w w') => (rOf_c q l' B d w' (by omega) hl3 (hD.ex hx) (by omega)).mono fun _ _ => NewSet.setR)
  rw [← hl2] at H13 H19
  have hofl : (ofL q l').length ≤ 20 := by rw [length_ofL]; omega
  have H18 := Lib.hid (fun A B c d w' hC hD => same_same q A B c d (ofL q l') w' hC hD hofl)
  clear h h0 h1 hl1 hl2 hl3
  generalize ofL q l' = us at *
  have hn0 : (0 : Nat) = 0 := rfl
  have H14 := Lib.hid (fun w' (hx : Ex w w') => bMembers_bad N A c ws w' (hC.ex hx) hw hv)
  generalize (q : Int) = n at *
  clear hC hD hw hv hT hm hl
  generalize ws.length = m at *
  generalize l.length = k at *
  go_enter Tryd.func3, Tryd.ntmps3
  go_wp2_with fail
  refine (HAw.out _ (by repeat (first | exact Ex.refl _ | apply Ex.ext | apply Ex.alloc))).mono ?_
  rintro e w' ⟨rfl, y, rfl⟩
  go_wp2_with fail
  refine (HF.out _ _ (Blk.new' (ext _ y) rfl 24 [.int .i64 N, .slice A m c])).mono ?_
  rintro e w' ⟨rfl, hx⟩
  obtain ⟨z, rfl⟩ := Ex.trans (Ex.alloc ⟨y, rfl⟩ _) hx
  clear hx HF HAw
  go_wp2_with fail
  refine (H13.out _ (by repeat (first | exact Ex.refl _ | apply Ex.ext | apply Ex.alloc))).mono ?_
  rintro e w1 ⟨A7, c7, rfl, hC7, hx⟩
  have hE := (((Ex.refl w).alloc (.cells #[.int .i64 N, .slice A m c] 24)).alloc (.cells #[.int .i64 n] 3)).trans (Ex.trans ⟨z, rfl⟩ hx)
  have hS := (((Blk.new w 24 [.int .i64 N, .slice A m c]).alloc (.cells #[.int .i64 n] 3)).ex ⟨z, rfl⟩).ex hx
  have hN := ((Blk.new' (w.alloc (.cells #[.int .i64 N, .slice A m c] 24)) (g := w.heap.size + 1) (by simp) 3 [.int .i64 n]).ex ⟨z, rfl⟩).ex hx
  clear hx H13
  have hE2 := hE.alloc (.cells #[.int .i64 n, .slice A7 us.length c7] 24)
  have hS2 := hS.alloc (.cells #[.int .i64 n, .slice A7 us.length c7] 24)
  have hN2 := hN.alloc (.cells #[.int .i64 n, .slice A7 us.length c7] 24)
  have hO2 := Blk.new w1 24 [.int .i64 n, .slice A7 us.length c7]
  have hC8 := hC7.ex ((Ex.refl _).alloc (.cells #[.int .i64 n, .slice A7 us.length c7] 24))
  have hs0 := hS.lt
  have hs1 := hN.lt
  have f0 := hS.cell 0
  have f1 := hS.cell 1
  simp only [List.getElem?_cons_zero, List.getElem?_cons_succ] at f0 f1
  clear hS hN hE hC7
  have HE2 := Lib.hid hE2
  have HS2 := Lib.hid hS2
  have HN2 := Lib.hid hN2
  have HO2 := Lib.hid hO2
  have HC8 := Lib.hid hC8
  clear hE2 hS2 hN2 hO2 hC8
  go_wp2_with fail
  generalize hW2 : w1.alloc (.cells #[.int .i64 n, .slice A7 us.length c7] 24) = W2 at *
  generalize w1.heap.size = b7 at *
  clear hW2 f0 f1 hs0 hs1
  have hs0 := HS2.out.lt
  have hs1 := HN2.out.lt
  have hs2 := HO2.out.lt
  have f0 := HS2.out.cell 0
  have f1 := HS2.out.cell 1
  have f2 := HN2.out.cell 0
  have f3 := HO2.out.cell 0
  have f4 := HO2.out.cell 1
  simp only [List.getElem?_cons_zero, List.getElem?_cons_succ] at f0 f1 f2 f3 f4
  refine (H14.out _ HE2.out).mono ?_
  rintro e W3 ⟨rfl, hx⟩
  have hS3 := HS2.out.ex hx
  have hN3 := HN2.out.ex hx
  have hO3 := HO2.out.ex hx
  have HC83 := Lib.hid (HC8.out.ex hx)
  have HEx := Lib.hid (fun (w' : World) (hy : Ex W3 w') => (HE2.out.trans hx).trans hy)
  clear f0 f1 f2 f3 f4 hs0 hs1 hs2 hx HC8 HS2 HN2 HO2 HE2 H14
  have hs0 := hS3.lt
  have hs1 := hN3.lt
  have hs2 := hO3.lt
  have f0 := hS3.cell 0
  have f1 := hS3.cell 1
  have f2 := hN3.cell 0
  have f3 := hO3.cell 0
  have f4 := hO3.cell 1
  simp only [List.getElem?_cons_zero, List.getElem?_cons_succ] at f0 f1 f2 f3 f4
  clear hS3 hN3 hO3 W2
  go_wp2_with fail
  refine (Calls.up (W := W3) (by repeat (first | exact Ex.refl _ | apply Ex.ext)) (H15.out _ _ (HEx.out _ (by repeat (first | exact Ex.refl _ | apply Ex.ext))) f2 hs1)).mono ?_
  rintro e w' ⟨rfl, z1, rfl⟩
  go_wp2
  have g2 := (ext_cell W3 z1 _ hs1).trans f2
  have g3 := (ext_cell W3 z1 _ hs2).trans f3
  have g4 := (ext_cell W3 z1 _ hs2).trans f4
  go_region_held3 (fun w' => w'.cell? ⟨b7, 0, none⟩ = some (.int .i64 n) ∧ w'.cell? ⟨b7, 1, none⟩ = some (.slice A7 us.length c7) ∧ w'.cell? ⟨w.heap.size + 1, 0, none⟩ = some (.int .i64 n))
    (first | exact ⟨g3, g4, g2⟩ | exact ⟨k3, k4, k2⟩ | exact ⟨q3, q4, q2⟩)
    (first | (go_at_call 19; refine (H19.out _ (HEx.out _ (Ex.drew ⟨_, rfl⟩))).mono ?_; rintro e w' ⟨A5, c5, rfl, hC5, hx⟩; have hx5 : Ex W3 w' := Ex.trans (Ex.drew ⟨_, rfl⟩) hx; have HC5 := Lib.hid hC5; clear hx hC5; have k2 := (hx5.below.cell hs1).trans f2; have k3 := (hx5.below.cell hs2).trans f3; have k4 := (hx5.below.cell hs2).trans f4) | (go_at_call 18; refine (Calls.up (W := W3) hx5 (H18.out _ _ _ _ _ (HC83.out.ex hx5) HC5.out)).mono ?_; rintro e w'' ⟨rfl, hx6⟩; have q2 := (hx6.below.cell hs1).trans f2; have q3 := (hx6.below.cell hs2).trans f3; have q4 := (hx6.below.cell hs2).trans f4))
  clear q2 q3 q4 k2 k3 k4 g2 g3 g4
  obtain ⟨z3, rfl⟩ := hx6
  go_wp2_with fail
  refine (Calls.up (W := W3) (by repeat (first | exact Ex.refl _ | apply Ex.ext)) (H20.out _ (HEx.out _ (by repeat (first | exact Ex.refl _ | apply Ex.ext))))).mono ?_
  rintro e w' ⟨rfl, hx⟩
  obtain ⟨z4, rfl⟩ := hx
  go_wp2_with fail
  refine (Calls.up (W := W3) (by repeat (first | exact Ex.refl _ | apply Ex.ext)) (H21.out _ (HEx.out _ (by repeat (first | exact Ex.refl _ | apply Ex.ext))))).mono ?_
  rintro e w' ⟨rfl, hx⟩
  obtain ⟨z5, rfl⟩ := hx
  go_wp2
  go_ret
  exact Ret.mk rfl (HEx.out _ ⟨_, rfl⟩)

set_option maxHeartbeats 1600000 in
theorem forms_ok_good (N n : Int) (A B : Option Addr) (c d : Nat) (ws : List Nat) (l : List Int) (w : World) (hT : Tab w) (hC : Cells w A (u64s ws)) (hD : Cells w B (ints l)) (hw : Wd ws) (hm : ws.length ≤ 20) (hl : l.length ≤ 600)
    (h0 : ¬ n < 0) (h1 : ¬ 512 < n) (h : l.any (outB n) = false) (hv : validB N ws = true) :
    Calls Tryd.prog 3 #[.agg #[.int .i64 N, .slice A ws.length c], .int .i64 n, .slice B l.length d] w (Ret w (.bool true)) := by
  have HAw := Lib.hid (fun w' (hx : Ex w w') => awake_c w' (hT.ex hx))
  have HF := Lib.hid (fun w' g (hB : Blk w' g 24 [.int .i64 N, .slice A ws.length c]) => few_one w' g 24 N A ws.length c hB)
  rw [decide_eq_true hm] at HF
  have hk : decide ((600 : Int) < (l.length : Int)) = false := by simp; omega
  have H20 := Lib.hid (fun w' (hx : Ex w w') => rvalid_c N A c ws w' (hC.ex hx) hw)
  have H21 := Lib.hid (fun w' (hx : Ex w w') => valid_c N A c ws w' (hC.ex hx) hw)
  rw [hv] at H20 H21
  have g1 : decide (n < 0) = false := by simp; omega
  have g2 : decide (512 < n) = false := by simp; omega
  obtain ⟨q, rfl⟩ : ∃ q : Nat, n = q := ⟨n.toNat, by omega⟩
  obtain ⟨l', hl1, hl2, hl3⟩ := nat_list q l (fun x hx => by
    have h2 := List.any_eq_false.1 h x hx
    simp [outB] at h2; omega)
  have H15 := Lib.hid (fun w' b (hx : Ex w w') (hc : w'.cell? ⟨b, 0, none⟩ = some (.int .i64 q)) (hb : b < w'.heap.size) => contains_c q l B d b w' (hD.ex hx) (by omega) hc hb)
  rw [h] at H15
  rw [hl1] at hD
  have H13 := Lib.hid (fun w' (hx : Ex w w') => (bOf_ok q l' B d w' (by omega) hl3 (hD.ex hx) (by omega)).mono fun _ _ => NewSetE.setE)
  have H19 := Lib.hid (fun w' (hx : Ex w w') => (rOf_c q l' B d w' (by omega) hl3 (hD.ex hx) (by omega)).mono fun _ _ => NewSet.setR)
  rw [← hl2] at H13 H19
  have hofl : (ofL q l').length ≤ 20 := by rw [length_ofL]; omega
  have H18 := Lib.hid (fun A B c d w' hC hD => same_same q A B c d (ofL q l') w' hC hD hofl)
  clear h h0 h1 hl1 hl2 hl3
  generalize ofL q l' = us at *
  have hn0 : (0 : Nat) = 0 := rfl
  obtain ⟨p, rfl, hvv⟩ := (validB_iff N ws).1 hv
  have H14 := Lib.hid (fun w' (hx : Ex w w') => (bMembers_ok p A c ws w' (hC.ex hx) hw hvv (hT.ex hx)).mono fun _ _ => RetOwnE.listE)
  have H23 := Lib.hid (fun w' (hx : Ex w w') => (rMembers_c p A c ws w' (hC.ex hx) hw hvv).mono fun _ _ => RetOwn.listR)
  have hml : (mems p ws).length ≤ 1000000 := by have := mems_le p ws; have := hvv.le; omega
  have H22 := Lib.hid (fun A B c d w' hC hD => eqn_same A B c d (mems p ws) w' hC hD hml)
  clear hvv
  generalize mems p ws = ml at *
  generalize (p : Int) = N at *
  generalize (q : Int) = n at *
  clear hC hD hw hv hT hm hl
  generalize ws.length = m at *
  generalize l.length = k at *
  go_enter Tryd.func3, Tryd.ntmps3
  go_wp2_with fail
  refine (HAw.out _ (by repeat (first | exact Ex.refl _ | apply Ex.ext | apply Ex.alloc))).mono ?_
  rintro e w' ⟨rfl, y, rfl⟩
  go_wp2_with fail
  refine (HF.out _ _ (Blk.new' (ext _ y) rfl 24 [.int .i64 N, .slice A m c])).mono ?_
  rintro e w' ⟨rfl, hx⟩
  obtain ⟨z, rfl⟩ := Ex.trans (Ex.alloc ⟨y, rfl⟩ _) hx
  clear hx HF HAw
  go_wp2_with fail
  refine (H13.out _ (by repeat (first | exact Ex.refl _ | apply Ex.ext | apply Ex.alloc))).mono ?_
  rintro e w1 ⟨A7, c7, rfl, hC7, hx⟩
  have hE := (((Ex.refl w).alloc (.cells #[.int .i64 N, .slice A m c] 24)).alloc (.cells #[.int .i64 n] 3)).trans (Ex.trans ⟨z, rfl⟩ hx)
  have hS := (((Blk.new w 24 [.int .i64 N, .slice A m c]).alloc (.cells #[.int .i64 n] 3)).ex ⟨z, rfl⟩).ex hx
  have hN := ((Blk.new' (w.alloc (.cells #[.int .i64 N, .slice A m c] 24)) (g := w.heap.size + 1) (by simp) 3 [.int .i64 n]).ex ⟨z, rfl⟩).ex hx
  clear hx H13
  have hE2 := hE.alloc (.cells #[.int .i64 n, .slice A7 us.length c7] 24)
  have hS2 := hS.alloc (.cells #[.int .i64 n, .slice A7 us.length c7] 24)
  have hN2 := hN.alloc (.cells #[.int .i64 n, .slice A7 us.length c7] 24)
  have hO2 := Blk.new w1 24 [.int .i64 n, .slice A7 us.length c7]
  have hC8 := hC7.ex ((Ex.refl _).alloc (.cells #[.int .i64 n, .slice A7 us.length c7] 24))
  have hs0 := hS.lt
  have hs1 := hN.lt
  have f0 := hS.cell 0
  have f1 := hS.cell 1
  simp only [List.getElem?_cons_zero, List.getElem?_cons_succ] at f0 f1
  clear hS hN hE hC7
  have HE2 := Lib.hid hE2
  have HS2 := Lib.hid hS2
  have HN2 := Lib.hid hN2
  have HO2 := Lib.hid hO2
  have HC8 := Lib.hid hC8
  clear hE2 hS2 hN2 hO2 hC8
  go_wp2_with fail
  generalize hW2 : w1.alloc (.cells #[.int .i64 n, .slice A7 us.length c7] 24) = W2 at *
  generalize w1.heap.size = b7 at *
  clear hW2 f0 f1 hs0 hs1
  have hs0 := HS2.out.lt
  have hs1 := HN2.out.lt
  have hs2 := HO2.out.lt
  have f0 := HS2.out.cell 0
  have f1 := HS2.out.cell 1
  have f2 := HN2.out.cell 0
  have f3 := HO2.out.cell 0
  have f4 := HO2.out.cell 1
  simp only [List.getElem?_cons_zero, List.getElem?_cons_succ] at f0 f1 f2 f3 f4
  refine (H14.out _ HE2.out).mono ?_
  rintro e W3 ⟨A9, c9, rfl, hC9, hx⟩
  have HC9 := Lib.hid hC9
  clear hC9
  have hS3 := HS2.out.ex hx
  have hN3 := HN2.out.ex hx
  have hO3 := HO2.out.ex hx
  have HC83 := Lib.hid (HC8.out.ex hx)
  have HEx := Lib.hid (fun (w' : World) (hy : Ex W3 w') => (HE2.out.trans hx).trans hy)
  clear f0 f1 f2 f3 f4 hs0 hs1 hs2 hx HC8 HS2 HN2 HO2 HE2 H14
  have hs0 := hS3.lt
  have hs1 := hN3.lt
  have hs2 := hO3.lt
  have f0 := hS3.cell 0
  have f1 := hS3.cell 1
  have f2 := hN3.cell 0
  have f3 := hO3.cell 0
  have f4 := hO3.cell 1
  simp only [List.getElem?_cons_zero, List.getElem?_cons_succ] at f0 f1 f2 f3 f4
  clear hS3 hN3 hO3 W2
  go_wp2_with fail
  refine (Calls.up (W := W3) (by repeat (first | exact Ex.refl _ | apply Ex.ext)) (H15.out _ _ (HEx.out _ (by repeat (first | exact Ex.refl _ | apply Ex.ext))) f2 hs1)).mono ?_
  rintro e w' ⟨rfl, z1, rfl⟩
  go_wp2
  have g2 := (ext_cell W3 z1 _ hs1).trans f2
  have g3 := (ext_cell W3 z1 _ hs2).trans f3
  have g4 := (ext_cell W3 z1 _ hs2).trans f4
  go_region_held3 (fun w' => w'.cell? ⟨b7, 0, none⟩ = some (.int .i64 n) ∧ w'.cell? ⟨b7, 1, none⟩ = some (.slice A7 us.length c7) ∧ w'.cell? ⟨w.heap.size + 1, 0, none⟩ = some (.int .i64 n))
    (first | exact ⟨g3, g4, g2⟩ | exact ⟨k3, k4, k2⟩ | exact ⟨q3, q4, q2⟩)
    (first | (go_at_call 19; refine (H19.out _ (HEx.out _ (Ex.drew ⟨_, rfl⟩))).mono ?_; rintro e w' ⟨A5, c5, rfl, hC5, hx⟩; have hx5 : Ex W3 w' := Ex.trans (Ex.drew ⟨_, rfl⟩) hx; have HC5 := Lib.hid hC5; clear hx hC5; have k2 := (hx5.below.cell hs1).trans f2; have k3 := (hx5.below.cell hs2).trans f3; have k4 := (hx5.below.cell hs2).trans f4) | (go_at_call 18; refine (Calls.up (W := W3) hx5 (H18.out _ _ _ _ _ (HC83.out.ex hx5) HC5.out)).mono ?_; rintro e w'' ⟨rfl, hx6⟩; have q2 := (hx6.below.cell hs1).trans f2; have q3 := (hx6.below.cell hs2).trans f3; have q4 := (hx6.below.cell hs2).trans f4))
  clear q2 q3 q4 k2 k3 k4 g2 g3 g4
  obtain ⟨z3, rfl⟩ := hx6
  go_wp2_with fail
  refine (Calls.up (W := W3) (by repeat (first | exact Ex.refl _ | apply Ex.ext)) (H20.out _ (HEx.out _ (by repeat (first | exact Ex.refl _ | apply Ex.ext))))).mono ?_
  rintro e w' ⟨rfl, hx⟩
  obtain ⟨z4, rfl⟩ := hx
  go_wp2_with fail
  refine (Calls.up (W := W3) (by repeat (first | exact Ex.refl _ | apply Ex.ext)) (H21.out _ (HEx.out _ (by repeat (first | exact Ex.refl _ | apply Ex.ext))))).mono ?_
  rintro e w' ⟨rfl, hx⟩
  obtain ⟨z5, rfl⟩ := hx
  go_wp2_with fail
  refine (H23.out _ (HEx.out _ (by repeat (first | exact Ex.refl _ | apply Ex.ext)))).mono ?_
  rintro e w' ⟨A3, c3, rfl, hC3, hx⟩
  have hx5 : Ex W3 w' := Ex.trans ⟨_, rfl⟩ hx
  have HC3 := Lib.hid hC3
  clear hx hC3
  obtain ⟨z6, rfl⟩ := hx5
  go_wp2_with fail
  refine (Calls.up (W := W3) (by repeat (first | exact Ex.refl _ | apply Ex.ext)) (H22.out _ _ _ _ _ (HC9.out.ex ⟨_, rfl⟩) HC3.out)).mono ?_
  rintro e w' ⟨rfl, z7, rfl⟩
  go_wp2
  go_ret
  exact Ret.mk rfl (HEx.out _ ⟨_, rfl⟩)

/-- the law of the forms, whatever the arguments -/
theorem forms_c (N n : Int) (A B : Option Addr) (c d : Nat) (ws : List Nat) (l : List Int) (w : World) (hT : Tab w) (hC : Cells w A (u64s ws)) (hD : Cells w B (ints l)) (hw : Wd ws) :
    Calls Tryd.prog 3 #[.agg #[.int .i64 N, .slice A ws.length c], .int .i64 n, .slice B l.length d] w (Ret w (.bool true)) := by
  by_cases hm : 20 < ws.length
  · exact forms_guard N n A B _ c _ d w hT (.inl hm)
  by_cases hl : 600 < l.length
  · exact forms_guard N n A B _ c _ d w hT (.inr hl)
  have hm' : ws.length ≤ 20 := by omega
  have hl' : l.length ≤ 600 := by omega
  cases hv : validB N ws
  · by_cases h0 : n < 0
    · exact forms_neg_bad N n A B c d ws l w hT hC hD hw hm' hl' h0 hv
    · by_cases h1 : 512 < n
      · exact forms_big_bad N n A B c d ws l w hT hC hD hw hm' hl' h0 h1 hv
      · cases h : l.any (outB n)
        · exact forms_ok_bad N n A B c d ws l w hT hC hD hw hm' hl' h0 h1 h hv
        · exact forms_has_bad N n A B c d ws l w hT hC hD hw hm' hl' h0 h1 h hv
  · by_cases h0 : n < 0
    · exact forms_neg_good N n A B c d ws l w hT hC hD hw hm' hl' h0 hv
    · by_cases h1 : 512 < n
      · exact forms_big_good N n A B c d ws l w hT hC hD hw hm' hl' h0 h1 hv
      · cases h : l.any (outB n)
        · exact forms_ok_good N n A B c d ws l w hT hC hD hw hm' hl' h0 h1 h hv
        · exact forms_has_good N n A B c d ws l w hT hC hD hw hm' hl' h0 h1 h hv
end Go.Proofs.YtfinldppcdkeoaaDoor
