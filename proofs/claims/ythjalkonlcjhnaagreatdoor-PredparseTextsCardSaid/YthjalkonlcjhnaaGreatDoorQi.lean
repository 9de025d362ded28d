/-
  The parser's level prefix (and comparison), walked: its first loop.
  Conditions: as each theorem says.
-/
import Derived.Test.YthjalkonlcjhnaaGreatDoorQh
namespace Go.Proofs.YthjalkonlcjhnaaGreatDoor
open Go.RowKit
def js1 : List (ByteArray × Int) := [(⟨#[110, 111, 116]⟩, 15), (⟨#[69, 70]⟩, 18), (⟨#[65, 70]⟩, 19), (⟨#[69, 71]⟩, 20), (⟨#[65, 71]⟩, 21)]
def js2 : List (ByteArray × Int) := [(⟨#[61]⟩, 9), (⟨#[33, 61]⟩, 10), (⟨#[60]⟩, 11), (⟨#[60, 61]⟩, 12)]
def js3 : List (ByteArray × Int) := [(⟨#[62]⟩, 11), (⟨#[62, 61]⟩, 12)]
theorem js1_eq : prefs = jL js1 := rfl
theorem js2_eq : cmp1 = jL js2 := rfl
theorem js3_eq : cmp2 = jL js3 := rfl
theorem lv2_some {f : Nat} {s : St} {k : Int} (h : pickS prefs s = some k) : lvS (f + 1) 2 none s = (nd k [(lvS f 2 none s.tl).1], (lvS f 2 none s.tl).2) := by
  conv => lhs; unfold lvS
  simp [h]
theorem lv2_none {f : Nat} {s : St} (h : pickS prefs s = none) : lvS (f + 1) 2 none s = lvS f 3 none s := by
  conv => lhs; unfold lvS
  simp [h]
theorem lv3_1 {f : Nat} {s : St} {k : Int} (h : pickS cmp1 (lvS f 4 none s).2 = some k) : lvS (f + 1) 3 none s = (nd k [(lvS f 4 none s).1, (lvS f 4 none (lvS f 4 none s).2.tl).1], (lvS f 4 none (lvS f 4 none s).2.tl).2) := by
  conv => lhs; unfold lvS
  simp [h]
theorem lv3_2 {f : Nat} {s : St} {k : Int} (h : pickS cmp1 (lvS f 4 none s).2 = none) (h2 : pickS cmp2 (lvS f 4 none s).2 = some k) : lvS (f + 1) 3 none s = (nd k [(lvS f 4 none (lvS f 4 none s).2.tl).1, (lvS f 4 none s).1], (lvS f 4 none (lvS f 4 none s).2.tl).2) := by
  conv => lhs; unfold lvS
  simp [h, h2]
theorem lv3_3 {f : Nat} {s : St} (h : pickS cmp1 (lvS f 4 none s).2 = none) (h2 : pickS cmp2 (lvS f 4 none s).2 = none) : lvS (f + 1) 3 none s = lvS f 4 none s := by
  conv => lhs; unfold lvS
  simp [h, h2]
/-- none of the first j joints is taken -/
def NoneTo (js : List (ByteArray × Int)) (s : St) (j : Nat) : Prop := ∀ (i : Nat) (S : ByteArray) (kk : Int), i < j → js[i]? = some (S, kk) → takeB s S.data.toList = false
theorem NoneTo.next {js : List (ByteArray × Int)} {s : St} {j : Nat} {S : ByteArray} {kk : Int} (h : NoneTo js s j) (hj : js[j]? = some (S, kk)) (hb : takeB s S.data.toList = false) : NoneTo js s (j + 1) := by
  intro i S' kk' hi hik
  by_cases hij : i = j
  · subst hij
    rw [hj] at hik
    injection hik with hik
    injection hik with h1 h2
    rw [← h1]; exact hb
  · exact h i S' kk' (by omega) hik
theorem NoneTo.all {js : List (ByteArray × Int)} {s : St} (h : NoneTo js s js.length) : pickS (jL js) s = none :=
  pick_none (fun i S kk hi => h i S kk (List.getElem?_eq_some_iff.1 hi).1 hi)
set_option maxRecDepth 20000 in
set_option maxHeartbeats 8000000 in
theorem prefix_some {f : Nat} (hpre : LvC 109 f 2) (g b : Nat) (s : St) (w : World) (h : Pst w g b s) (hm : ∀ k, pickS prefs s = some k → 10 * mS s.tl + 18 ≤ f) (kq : Int) (hpk : pickS prefs s = some kq) :
    Calls Tryz.prog 109 #[.pointer (some ⟨g, 0, none⟩)] w (TreeR w g b (lvS (f + 1) 2 none s)) := by
  obtain ⟨hg, hbz, hbg⟩ := h.bounds
  rw [lv2_some hpk]
  have HZ : Hid (Zero6 (w.alloc (.cells #[.int .i64 0, .int .i64 0, .int .i64 0, .int .i64 0, .string ⟨#[]⟩, .slice none 0 0] 24)) w.heap.size) := Blk.new w _ _
  have HB := Lib.hid (And.intro hg (And.intro hbz hbg))
  obtain ⟨W0, hW0⟩ : ∃ W0, W0 = (w.alloc (.cells #[.int .i64 0, .int .i64 0, .int .i64 0, .int .i64 0, .string ⟨#[]⟩, .slice none 0 0] 24)).alloc (.cells #[.string ⟨#[110, 111, 116]⟩, .int .i64 15, .string ⟨#[69, 70]⟩, .int .i64 18, .string ⟨#[65, 70]⟩, .int .i64 19, .string ⟨#[69, 71]⟩, .int .i64 20, .string ⟨#[65, 71]⟩, .int .i64 21] 87) := ⟨_, rfl⟩
  have hxw : Exg g w W0 := by rw [hW0]; exact ((Exg.refl g w).alloc _).alloc _
  have hz0 : Zero6 W0 w.heap.size := by rw [hW0]; exact HZ.out.alloc _
  have hp0 : Pst W0 g b s := by rw [hW0]; exact h.ex (((Ex.refl _).alloc _).alloc _)
  have hj0 : Blk W0 (w.heap.size + 1) 87 (jV js1) := by rw [hW0]; exact Blk.new' _ (by simp) _ _
  have hs0 : w.heap.size + 1 ≤ W0.heap.size := by rw [hW0]; simp
  have HW := Lib.hid (And.intro hxw (And.intro hz0 (And.intro hp0 (And.intro hj0 hs0))))
  have HWq := Lib.hid hW0
  have HO0 := Lib.hid (fun w' (hp : Pst w' g b s.tl) => hpre g b s.tl w' hp (by have := hm kq hpk; omega))
  obtain ⟨R1, R2, hR⟩ : ∃ R1 R2, lvS f 2 none s.tl = (R1, R2) := ⟨_, _, rfl⟩
  rw [hR] at HO0 ⊢
  unfold TreeR at HO0
  have HGt : Hid (∀ k, k < 5 → ∃ S kk, js1[k]? = some (S, kk)) := fun k hk => ⟨(js1[k]'hk).1, (js1[k]'hk).2, List.getElem?_eq_getElem hk⟩
  have HPk : Hid (pickS (jL js1) s = some kq) := hpk
  have HRg : Hid (w.heap.size ≠ g) := Nat.ne_of_gt hg
  clear h hm hpk hR hpre hg hbz hbg hxw hz0 hp0 hj0 hs0 HZ hW0
  go_enter Tryz.func109, Tryz.ntmps109
  go_wp2_with fail
  rw [← HWq.out]
  go_loopw [17] (fun i wr => ∃ j : Nat, i = .int .i64 j ∧ j ≤ 5 ∧ Hid (NoneTo js1 s j ∧ Pst wr g b s ∧ Exg g W0 wr)) (fun i _ => 5 - (intOf i).toNat)
  case atStart => exact ⟨0, rfl, Nat.zero_le _, Lib.hid ⟨(fun i S kk h => absurd h (by omega)), HW.out.2.2.1, Exg.refl _ _⟩⟩
  case round =>
    obtain ⟨j, rfl, hj, HH⟩ := hrel
    obtain ⟨hno, hps, hxg⟩ := HH.out
    by_cases hlt : j < 5
    · have n1 : (j : Int) < 5 := by omega
      have n0 : (0 : Int) ≤ (j : Int) := by omega
      obtain ⟨SJ, kk, hjk⟩ := HGt.out j hlt
      have hbj := hxg.blk HW.out.2.2.2.1 (by have := HB.out.1; omega)
      obtain ⟨g1, g2⟩ := jV_get js1 j SJ kk hjk
      have b0 := hbj.cell (j * 2)
      have b1 := hbj.cell (j * 2 + 1)
      rw [g1] at b0
      rw [g2] at b1
      have lj := hbj.lt
      have HK := Lib.hid hjk
      have HNo := Lib.hid hno
      have HPs := Lib.hid hps
      have HXg := Lib.hid hxg
      clear g1 g2 hbj hjk hno hps hxg HH
      cases hb : takeB s SJ.data.toList with
      | false =>
        have HT := Lib.hid (fun w' (hp : Pst w' g b s) => take_f g b s SJ w' hp hb)
        have HN := Lib.hid (HNo.out.next HK.out hb)
        clear hb
        go_wp2_with fail
        refine (HT.out _ (HPs.out.ex ((Ex.refl _).alloc _))).mono ?_
        rintro e w3 ⟨rfl, hp, hx⟩
        have HP3 := Lib.hid hp
        have HX3 := Lib.hid ((HXg.out.alloc (.cells #[.string SJ, .int .i64 kk] 87)).trans hx)
        clear hp hx
        go_wp2_with fail
        refine ⟨⟨j + 1, by go_num, by omega, Lib.hid ⟨HN.out, HP3.out, HX3.out⟩⟩, by simp [intOf]; omega⟩
      | true =>
        have HT := Lib.hid (fun w' (hp : Pst w' g b s) => take_t g b s SJ w' hp hb)
        have hkk := pick_at HNo.out HK.out hb
        rw [HPk.out] at hkk
        injection hkk with hkk
        subst hkk
        clear hb
        go_wp2_with fail
        refine (HT.out _ (HPs.out.ex ((Ex.refl _).alloc _))).mono ?_
        rintro e w3 ⟨rfl, hp, hx⟩
        have hgr : wr.heap.size ≠ g := by have h1 := HXg.out.size; have h2 := HB.out.1; have h3 := HW.out.2.2.2.2; omega
        have hX0 : Blk w3 wr.heap.size 87 [.string SJ, .int .i64 kq] := hx.blk (Blk.new wr _ _) hgr
        have x0 : w3.cell? ⟨wr.heap.size, 1, none⟩ = some (.int .i64 kq) := hX0.cell 1
        have lX := hX0.lt
        have HX3 := Lib.hid ((HXg.out.alloc (.cells #[.string SJ, .int .i64 kq] 87)).trans hx)
        have HZ3 : Hid (Zero6 w3 w.heap.size) := HX3.out.blk HW.out.2.1 HRg.out
        have HP3 := Lib.hid hp
        have HX0 := Lib.hid hX0
        have HGX := Lib.hid hgr
        have HO := HO0
        clear hp hx hX0 hgr
        go_upto_region 5 with fail
        go_region_with (refine (HO.out _ (by first | exact HP3.out | exact HP3.out.ex ((Ex.refl _).drew))).mono ?_; rintro e w4 ⟨k2, n2, p2, q2, S2, A2, m2, c2, rfl, ht4, hp4, hx4'⟩; have hx4 : Exg g w3 w4 := (by first | exact hx4' | exact ((Exg.refl g w3).drew).trans hx4'); have y0 : w4.cell? ⟨wr.heap.size, 1, none⟩ = some (.int .i64 kq) := (hx4.blk HX0.out HGX.out).cell 1; have l5 := (hx4.blk HX0.out HGX.out).lt; have hz4 := hx4.blk HZ3.out HRg.out; have r0 := hz4.cell 0; have r1 := hz4.cell 1; have r2 := hz4.cell 2; have r3 := hz4.cell 3; have r4 := hz4.cell 4; have r5 := hz4.cell 5; simp only [List.getElem?_cons_zero, List.getElem?_cons_succ] at r0 r1 r2 r3 r4 r5; have f0 := hz4.frozen 0; have f1 := hz4.frozen 1; have f2 := hz4.frozen 2; have f3 := hz4.frozen 3; have f4 := hz4.frozen 4; have f5 := hz4.frozen 5; have lz := hz4.lt; have HZ4 := Lib.hid hz4; have HT4 := Lib.hid ht4; have HP4 := Lib.hid hp4; have HX4 := Lib.hid hx4; clear hz4 ht4 hp4 hx4 hx4')
        all_goals
          go_wp2_with fail
          refine bodyPost_ret (results_pred rfl rfl ((blk6 HZ4.out _ _ _ _ _ _).alloc _)) rfl ?_
          exact fin6one (Q := fun c => w.heap.size + 1 ≤ c) (Nat.le_refl _) (HT4.out.imp (fun c _ h => by have h0 : w3.heap.size ≤ c := h; have h1 := HX3.out.size; have h3 := HW.out.2.2.2.2; omega)) (fun c h => ⟨by omega, by omega⟩) HP4.out HB.out.1 HB.out.2.1 ((HW.out.1.trans HX3.out).trans HX4.out)
    · have hjn : j = 5 := by omega
      subst hjn
      have hall := hno.all
      rw [HPk.out] at hall
      cases hall
end Go.Proofs.YthjalkonlcjhnaaGreatDoor
