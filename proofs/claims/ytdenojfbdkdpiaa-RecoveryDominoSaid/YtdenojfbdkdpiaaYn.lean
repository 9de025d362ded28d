/-
  The law's example: plain facts. Equal lists of numbers; the law's example, walked.
  Conditions: as each theorem says.
-/
import Derived.Test.YtdenojfbdkdpiaaYm
namespace Go.Proofs.Ytdenojfbdkdpiaa
section
theorem ex_nm : nameB ⟨#[97]⟩ = true ∧ nameB ⟨#[98]⟩ = true := by decide
theorem ex_evN (p : Nat) : evN exT p = if p < 2 then 2 else 0 := by
  match p with
  | 0 => rfl
  | 1 => rfl
  | p + 2 => simp [evN, exT]
theorem ex_in {x : Nat × Nat} (h : InT exT x) : x = (0, 1) ∨ x = (0, 2) ∨ x = (1, 1) ∨ x = (1, 2) := by
  obtain ⟨a, b⟩ := x
  obtain ⟨h1, h2⟩ := h
  rw [ex_evN] at h2
  dsimp only at h1 h2
  simp only [Prod.mk.injEq]
  split at h2 <;> omega
theorem ex_ev0 : evAt exT 0 0 = some (exEv 2 1 1) := rfl
theorem ex_ev1 : evAt exT 0 1 = some (exEv 3 1 2) := rfl
theorem ex_ev2 : evAt exT 1 0 = some (exEv 3 0 1) := rfl
theorem ex_ev3 : evAt exT 1 1 = some (exEv 2 0 2) := rfl
def exR (x : Nat × Nat) : Nat := if x.1 = 0 then (if x.2 = 1 then 0 else 3) else x.2
theorem ex_dir {x y : Nat × Nat} (h : Dir exT x y) : exR x < exR y := by
  obtain ⟨h1, h2, h3⟩ := h
  rcases ex_in h1 with rfl | rfl | rfl | rfl <;> rcases ex_in h2 with rfl | rfl | rfl | rfl <;>
    first
    | (simp [exR]; done)
    | (exfalso
       rcases h3 with ⟨g1, g2⟩ | ⟨e, f, g1, g2, g3, g4, g5⟩
       · simp at g1 g2
       · simp only [Nat.sub_self, Nat.reduceSub, ex_ev0, ex_ev1, ex_ev2, ex_ev3, Option.some.injEq] at g1 g2
         subst g1 g2
         simp [exEv] at g3 g4 g5)
theorem ex_acyclic (x : Nat × Nat) : ¬ OnC exT x := fun h => by
  have : ∀ x y, Hap exT x y → exR x < exR y := fun x y h => by
    induction h with
    | single h => exact ex_dir h
    | tail _ h ih => exact Nat.lt_trans ih (ex_dir h)
  exact absurd (this x x h) (Nat.lt_irrefl _)
theorem ex_head (q : Nat) (hq : q < exT.length) : headE exT q = 0 := by
  have h0 : firstN (varE []) 0 = 0 := firstN_none fun j h => absurd h (Nat.not_lt_zero _)
  have hn := ex_nm
  match q, hq with
  | 0, _ => simp [headE, exT, hn.1, h0]
  | 1, _ => simp [headE, exT, hn.2, h0]
theorem ex_form (x : Nat × Nat) (hx : InT exT x) : formE exT x = 0 := by
  have h0 : ∀ n, firstN (asgE n []) 0 = 0 := fun n => firstN_none fun j h => absurd h (Nat.not_lt_zero _)
  rcases ex_in hx with rfl | rfl | rfl | rfl <;> simp [formE, exT, exEv, evE, frmB, lastT, h0]
theorem ex_sel {k m : Int} {y : Nat × Nat} (hy : InT exT y) (h : Sel exT k m y) : (y = (0, 1) ∧ k = 2 ∧ m = 1) ∨ (y = (0, 2) ∧ k = 3 ∧ m = 2) ∨ (y = (1, 1) ∧ k = 3 ∧ m = 1) ∨ (y = (1, 2) ∧ k = 2 ∧ m = 2) := by
  obtain ⟨e, h1, h2, h3⟩ := h
  rcases ex_in hy with rfl | rfl | rfl | rfl <;>
    (simp only [Nat.sub_self, Nat.reduceSub, ex_ev0, ex_ev1, ex_ev2, ex_ev3, Option.some.injEq] at h1
     subst h1
     simp only [exEv] at h2 h3
     subst h2 h3
     simp)
theorem ex_pair (x : Nat × Nat) (hx : InT exT x) : pairE exT x = 0 := by
  have hno : ∀ k m, (∃ y, InT exT y ∧ Bef y x ∧ Sel exT k m y) → Sel exT k m x → False := fun k m ⟨y, h1, h2, h3⟩ h4 => by
    have a := ex_sel h1 h3
    have b := ex_sel hx h4
    rcases a with ⟨rfl, ha, ha'⟩ | ⟨rfl, ha, ha'⟩ | ⟨rfl, ha, ha'⟩ | ⟨rfl, ha, ha'⟩ <;> rcases b with ⟨rfl, hb, hb'⟩ | ⟨rfl, hb, hb'⟩ | ⟨rfl, hb, hb'⟩ | ⟨rfl, hb, hb'⟩ <;> first | omega | exact bef_irr _ h2
  have s1 : Snds exT 1 2 0 := ⟨⟨⟨#[98]⟩, [], [exEv 3 0 1, exEv 2 0 2]⟩, exEv 2 0 2, by decide, rfl, by simp, rfl, rfl, rfl⟩
  have s2 : Snds exT 0 1 1 := ⟨⟨⟨#[97]⟩, [], [exEv 2 1 1, exEv 3 1 2]⟩, exEv 2 1 1, by decide, rfl, by simp, rfl, rfl, rfl⟩
  unfold pairE
  rcases ex_in hx with rfl | rfl | rfl | rfl
  · simp only [Nat.sub_self, ex_ev0]
    rw [if_neg (by decide), if_neg (fun h => hno _ _ h ⟨_, ex_ev0, rfl, rfl⟩), if_neg (by simp [exEv])]
  · simp only [Nat.reduceSub, ex_ev1]
    rw [if_neg (by decide), if_neg (fun h => hno _ _ h ⟨_, ex_ev1, rfl, rfl⟩), if_neg (fun h => h.2 s1)]
  · simp only [Nat.sub_self, ex_ev2]
    rw [if_neg (by decide), if_neg (fun h => hno _ _ h ⟨_, ex_ev2, rfl, rfl⟩), if_neg (fun h => h.2 s2)]
  · simp only [Nat.reduceSub, ex_ev3]
    rw [if_neg (by decide), if_neg (fun h => hno _ _ h ⟨_, ex_ev3, rfl, rfl⟩), if_neg (by simp [exEv])]
theorem ex_fault : faultO exT = ((0, 0), 0) := fault_none (by decide) ex_head ex_form ex_pair ex_acyclic
theorem ex_valid : validB exT = true := by
  unfold validB
  rw [ex_fault]
  rfl
theorem ex_paired : Paired exT := paired_of ex_pair
def exL : List (List Int) := [[0, 1, 2], [0, 1, 2]]
theorem ex_row {p : Nat} {r : List Int} (h : exL[p]? = some r) : p < 2 ∧ r = [0, 1, 2] := by
  match p, h with
  | 0, h => cases h; exact ⟨by omega, rfl⟩
  | 1, h => cases h; exact ⟨by omega, rfl⟩
  | p + 2, h => simp [exL] at h
theorem ex_ok : okRow 2 [0, 1, 2] := ⟨rfl, rfl, fun i a b h1 h2 => by
  match i, h1, h2 with
  | 0, h1, h2 => simp at h1 h2; omega
  | 1, h1, h2 => simp at h1 h2; omega
  | i + 2, h1, h2 => simp at h2⟩
theorem ex_cp : cpP exT exL := ⟨rfl, fun p r h => by
  obtain ⟨hp, rfl⟩ := ex_row h
  rw [ex_evN, if_pos hp]
  exact ex_ok⟩
theorem ex_cpB : cpB exT exL = true := cp_true ex_valid ex_cp
theorem ex_msgs {m : Msg} : m ∈ msgs exT ↔ m = ((1, 2), (0, 2)) ∨ m = ((0, 1), (1, 1)) := by
  have f1 : findO exT 2 1 = (0, 1) := find_eq ex_paired (by decide) ⟨by decide, by decide⟩ ⟨_, ex_ev0, rfl, rfl⟩
  have f2 : findO exT 2 2 = (1, 2) := find_eq ex_paired (by decide) ⟨by decide, by decide⟩ ⟨_, ex_ev3, rfl, rfl⟩
  rw [msgs_iff]
  constructor
  · rintro ⟨p, i, e, h1, h2, rfl⟩
    have hi := ex_in (x := (p, i + 1)) ⟨by simp, evAt_lt h1⟩
    simp only [Prod.mk.injEq] at hi
    rcases hi with ⟨rfl, hi⟩ | ⟨rfl, hi⟩ | ⟨rfl, hi⟩ | ⟨rfl, hi⟩
    · obtain rfl : i = 0 := by omega
      rw [ex_ev0] at h1; cases h1; simp [exEv] at h2
    · obtain rfl : i = 1 := by omega
      rw [ex_ev1] at h1; cases h1
      left; simp [exEv, f2]
    · obtain rfl : i = 0 := by omega
      rw [ex_ev2] at h1; cases h1
      right; simp [exEv, f1]
    · obtain rfl : i = 1 := by omega
      rw [ex_ev3] at h1; cases h1; simp [exEv] at h2
  · rintro (rfl | rfl)
    · exact ⟨0, 1, _, ex_ev1, rfl, by simp [exEv, f2]⟩
    · exact ⟨1, 0, _, ex_ev2, rfl, by simp [exEv, f1]⟩
/-- the line after process 1 fails -/
theorem ex_top : IsTop (msgs exT) (permF exL [1]) [1, 1] := by
  have hP : permF exL [1] = [[0, 1, 2], [0, 1]] := by decide
  rw [hP]
  refine ⟨⟨rfl, fun p r a hr ha => ?_, fun m hm a b ha hb hle => ?_⟩, fun d hd p a b ha hb => ?_⟩
  · match p, hr, ha with
    | 0, hr, ha => cases hr; cases ha; decide
    | 1, hr, ha => cases hr; cases ha; decide
    | p + 2, hr, ha => simp at hr
  · rcases ex_msgs.1 hm with rfl | rfl
    · cases ha
      exact absurd hle (by decide)
    · cases hb
      decide
  · obtain ⟨a0, h0⟩ := get_at (show 0 < d.length by rw [hd.len]; decide)
    obtain ⟨a1, h1⟩ := get_at (show 1 < d.length by rw [hd.len]; decide)
    have m0 := hd.mem 0 _ a0 rfl h0
    have m1 := hd.mem 1 _ a1 rfl h1
    have hc := hd.closed _ (ex_msgs.2 (.inl rfl)) a0 a1 h0 h1
    simp only [List.mem_cons, List.not_mem_nil, or_false] at m0 m1
    match p, ha, hb with
    | 0, ha, hb =>
      rw [h0] at ha; cases ha; cases hb
      have hc' : (2 : Int) ≤ a → (2 : Int) ≤ a1 := hc
      omega
    | 1, ha, hb =>
      rw [h1] at ha; cases ha; cases hb
      omega
    | p + 2, ha, hb => simp at hb
theorem ex_zig : zzB exL (msgs exT) (0, 2) (0, 3) = false := by
  have hfit : LFit (msgs exT) exL := msg_fit ex_paired ex_cp
  unfold zzB
  refine zB_false fun ⟨m, hm, hg⟩ => ?_
  have key : ∀ m, Rch (msgs exT) (stX (oneX 0 (lvZ exL (0, 2)))) (nxB exL) m → False := fun m h => by
    induction h with
    | start h1 h2 =>
      rw [stX_one] at h2
      rcases ex_msgs.1 h1 with rfl | rfl <;> revert h2 <;> decide
    | step _ _ _ ih => exact ih
  exact key m hm
theorem ex_zigO : zigO exT exL 0 2 0 3 = (false, 0) := by
  unfold zigO
  rw [ex_cpB, show ckB exL 0 2 = true by decide, show ckB exL 0 3 = true by decide]
  simp only [Bool.true_eq_false, if_false, Bool.and_self]
  rw [show ((0 : Int).toNat, (2 : Int).toNat) = (0, 2) by decide, show ((0 : Int).toNat, (3 : Int).toNat) = (0, 3) by decide, ex_zig]
theorem ex_small : TSm exT := by
  refine ⟨by decide, by decide, fun x hx => ?_⟩
  simp only [exT, List.mem_cons, List.not_mem_nil, or_false] at hx
  rcases hx with rfl | rfl
  · refine ⟨by decide, by decide, by decide, fun v hv => absurd hv List.not_mem_nil, fun e he => ?_⟩
    simp only [List.mem_cons, List.not_mem_nil, or_false] at he
    rcases he with rfl | rfl <;> decide
  · refine ⟨by decide, by decide, by decide, fun v hv => absurd hv List.not_mem_nil, fun e he => ?_⟩
    simp only [List.mem_cons, List.not_mem_nil, or_false] at he
    rcases he with rfl | rfl <;> decide
theorem exL_small : LSm exL := ⟨by decide, fun r hr => by
  simp only [exL, List.mem_cons, List.not_mem_nil, or_false, or_self] at hr
  subst hr
  decide⟩
end
section
open Go.RowKit Go.Shelf
theorem row_getD {w : World} {b o : Nat} {xs : List Int} (h : ∀ j a, xs[j]? = some a → w.cell? ⟨b, o + j, none⟩ = some (.int .i64 a)) : ∀ j, j < xs.length → w.cell? ⟨b, o + j, none⟩ = some (.int .i64 (xs.getD j 0)) := contains_int h
theorem equal_c (xs ys : List Int) (A B : Option Addr) (c d : Nat) (w : World) (hx : Row w A (intsV xs)) (hy : Row w B (intsV ys)) (lx : xs.length ≤ 1000000000) (ly : ys.length ≤ 1000000000) :
    Calls Try.prog 23 #[.slice A xs.length c, .slice B ys.length d] w (Ret w (.bool (decide (xs = ys)))) := by
  by_cases hl : xs.length = ys.length
  · by_cases h0 : xs = []
    · have h1 : ys = [] := List.eq_nil_of_length_eq_zero (by rw [← hl, h0]; rfl)
      subst h0 h1
      refine (Try.slices_Equal_int_empty A B c 0 d w (by decide)).mono ?_
      rintro e w' ⟨rfl, rfl⟩
      exact ⟨rfl, Ex.refl _⟩
    · have h1 : ys ≠ [] := fun h => h0 (List.eq_nil_of_length_eq_zero (by rw [hl, h]; rfl))
      obtain ⟨b, o, rfl, -, hc⟩ := row_at hx h0
      obtain ⟨b', o', rfl, -, hc'⟩ := row_at hy h1
      refine (Try.slices_Equal_int b o xs.length c b' o' ys.length d xs ys w (Nat.le_refl _) (Nat.le_refl _) (by omega) (by omega) (row_getD hc) (row_getD hc')).mono ?_
      rintro e w' ⟨rfl, q, rfl⟩
      rw [List.take_length, List.take_length]
      exact ⟨by rw [show (xs == ys) = decide (xs = ys) by rw [Bool.eq_iff_iff]; simp], (Ex.refl _).drewN _⟩
  · refine (Try.slices_Equal_int_lens A B xs.length c ys.length d w hl).mono ?_
    rintro e w' ⟨rfl, rfl⟩
    exact ⟨by rw [decide_eq_false fun h => hl (by rw [h])], Ex.refl _⟩
set_option maxRecDepth 20000 in
set_option maxHeartbeats 3200000 in
theorem awake_c (w : World) : Calls Try.prog 10 #[] w (Ret w (.bool true)) := by
  have HEx := Lib.hid example_c
  have HAf := Lib.hid (fun A w (hT : TcC w A exT) (B : Option Addr) (hL : LlC w B exL) (F : Option Addr) (hF : Row w F (intsV [1])) => pAfter_c exT A 2 exL B 2 [1] F 1 w hT ex_small (by decide) hL exL_small hF (by decide))
  have HZg := Lib.hid (fun A w (hT : TcC w A exT) (B : Option Addr) (hL : LlC w B exL) => pZigzag_c exT A 2 exL B 2 0 2 0 3 w hT ex_small (by decide) hL exL_small)
  have HVl := Lib.hid (fun A w (hT : TcC w A exT) (B : Option Addr) (hL : LlC w B exL) => pCp_c exT A 2 exL B 2 w hT ex_small (by decide) hL exL_small)
  have HEq := Lib.hid (fun A k w (hA : Row w A (intsV [1, 1])) B (hB : Row w B (intsV [1, 1])) => equal_c [1, 1] [1, 1] A B k 2 w hA hB (by decide) (by decide))
  rw [ex_zigO] at HZg
  rw [ex_cpB] at HVl
  obtain ⟨W1, hW1⟩ : ∃ W1, W1 = ((w.alloc (.cells #[.int .i64 0, .int .i64 1, .int .i64 2] 3)).alloc (.cells #[.int .i64 0, .int .i64 1, .int .i64 2] 3)).alloc (.cells #[.slice (some ⟨w.heap.size, 0, none⟩) 3 3, .slice (some ⟨w.heap.size + 1, 0, none⟩) 3 3] 39) := ⟨_, rfl⟩
  have hX1 : Ex w W1 := by rw [hW1]; exact (((Ex.refl w).alloc _).alloc _).alloc _
  have hL1 : LlC W1 (some ⟨w.heap.size + 1 + 1, 0, none⟩) exL := by
    have b0 : Blk W1 w.heap.size 3 [.int .i64 0, .int .i64 1, .int .i64 2] := by rw [hW1]; exact ((Blk.new w _ _).alloc _).alloc _
    have b1 : Blk W1 (w.heap.size + 1) 3 [.int .i64 0, .int .i64 1, .int .i64 2] := by
      rw [hW1, show w.heap.size + 1 = (w.alloc (.cells #[.int .i64 0, .int .i64 1, .int .i64 2] 3)).heap.size by simp]
      exact (Blk.new _ _ _).alloc _
    have b2 : Blk W1 (w.heap.size + 1 + 1) 39 [.slice (some ⟨w.heap.size, 0, none⟩) 3 3, .slice (some ⟨w.heap.size + 1, 0, none⟩) 3 3] := by
      rw [hW1]
      have := Blk.new ((w.alloc (.cells #[.int .i64 0, .int .i64 1, .int .i64 2] 3)).alloc (.cells #[.int .i64 0, .int .i64 1, .int .i64 2] 3)) 39 [.slice (some ⟨w.heap.size, 0, none⟩) 3 3, .slice (some ⟨w.heap.size + 1, 0, none⟩) 3 3]
      simpa using this
    have hr : ∀ g, Blk W1 g 3 [.int .i64 0, .int .i64 1, .int .i64 2] → Row W1 (some ⟨g, 0, none⟩) (intsV [0, 1, 2]) := fun g hg => .inr ⟨g, 0, rfl, hg.lt, fun j u hj => by rw [Nat.zero_add]; exact (hg.cell j).trans hj⟩
    intro p r hp
    refine ⟨w.heap.size + 1 + 1, 0, rfl, b2.lt, ?_⟩
    match p, hp with
    | 0, hp => cases hp; exact ⟨_, _, b2.cell 0, by decide, hr _ b0⟩
    | 1, hp => cases hp; exact ⟨_, _, b2.cell 1, by decide, hr _ b1⟩
    | p + 2, hp => simp [exL] at hp
  have HX1 := Lib.hid hX1
  have HL1 : Hid (∀ w', Ex W1 w' → LlC w' (some ⟨w.heap.size + 1 + 1, 0, none⟩) exL) := fun w' h => hL1.ex h
  have HW1 := Lib.hid hW1
  clear hX1 hL1 hW1
  go_enter Try.func10, Try.ntmps10
  go_wp2_with fail
  rw [← HW1.out]
  refine (HEx.out _).mono ?_
  rintro e9 w2 ⟨A2, rfl, hT2, hx2⟩
  have HX2 := Lib.hid hx2
  have hXb : Ex w2 (w2.alloc (.cells #[.int .i64 1] 3)) := (Ex.refl _).alloc _
  have hbF : Blk (w2.alloc (.cells #[.int .i64 1] 3)) w2.heap.size 3 [.int .i64 1] := Blk.new w2 _ _
  have HA := Lib.hid (HAf.out A2 _ (hT2.ex hXb) _ (HL1.out _ (hx2.trans hXb)) (some ⟨w2.heap.size, 0, none⟩) (.inr ⟨w2.heap.size, 0, rfl, hbF.lt, fun j u hj => by rw [Nat.zero_add]; exact (hbF.cell j).trans hj⟩))
  have HXb := Lib.hid (hx2.trans hXb)
  clear hXb hbF hT2 hx2
  go_wp2_with fail
  refine (HA.out).mono ?_
  rintro e9 w3 h3
  obtain ⟨A3, k3, rfl, ho3, hx3⟩ : ∃ A k, e9 = .returned (.tuple #[.slice A 2 k, .int .i64 0]) ∧ Row w3 A (intsV [1, 1]) ∧ Ex (w2.alloc (.cells #[.int .i64 1] 3)) w3 := by
    rcases h3 with ⟨h, -⟩ | ⟨-, h, -⟩ | ⟨-, -, A, k, cs, he, hi, ho, hx⟩
    · rw [ex_cpB] at h; cases h
    · exact absurd h (by decide)
    · have := top_eq hi ex_top
      subst this
      exact ⟨A, k, he, row_own ho, hx⟩
  have HO3 := Lib.hid ho3
  have HX3 := Lib.hid (HXb.out.trans hx3)
  clear ho3 hx3 h3 HA
  go_wp2_with fail
  refine (HEx.out _).mono ?_
  rintro e9 w4 ⟨A4, rfl, hT4, hx4⟩
  have HX4 := Lib.hid (HX3.out.trans hx4)
  have HO4 := Lib.hid (HO3.out.ex hx4)
  have HZ4 := Lib.hid (HZg.out A4 _ hT4 _ (HL1.out _ HX4.out))
  clear hT4 hx4
  go_wp2_with fail
  refine (HZ4.out).mono ?_
  rintro e9 w5 ⟨rfl, hx5⟩
  have hX5 : Ex w5 (w5.alloc (.cells #[.int .i64 1, .int .i64 1] 3)) := (Ex.refl _).alloc _
  have hb5 : Blk (w5.alloc (.cells #[.int .i64 1, .int .i64 1] 3)) w5.heap.size 3 [.int .i64 1, .int .i64 1] := Blk.new w5 _ _
  have HE5 := Lib.hid (HEq.out A3 k3 _ (HO4.out.ex (hx5.trans hX5)) (some ⟨w5.heap.size, 0, none⟩) (.inr ⟨w5.heap.size, 0, rfl, hb5.lt, fun j u hj => by rw [Nat.zero_add]; exact (hb5.cell j).trans hj⟩))
  have HX5 := Lib.hid (HX4.out.trans (hx5.trans hX5))
  clear hX5 hb5 hx5 HZ4
  go_wp2_with fail
  refine (HE5.out).mono ?_
  rintro e9 w6 ⟨rfl, hx6⟩
  have HX6 := Lib.hid (HX5.out.trans hx6)
  clear hx6 HE5
  go_wp2_with fail
  refine (HEx.out _).mono ?_
  rintro e9 w7 ⟨A7, rfl, hT7, hx7⟩
  have HX7 := Lib.hid (HX6.out.trans hx7)
  have HV7 := Lib.hid (HVl.out A7 _ hT7 _ (HL1.out _ HX7.out))
  clear hT7 hx7
  go_wp2_with fail
  refine (HV7.out).mono ?_
  rintro e9 w8 ⟨rfl, hx8⟩
  have HX8 := Lib.hid (HX1.out.trans (HX7.out.trans hx8))
  clear hx8
  go_wp2_with fail
  go_ret
  exact Ret.mk rfl HX8.out
end
end Go.Proofs.Ytdenojfbdkdpiaa
