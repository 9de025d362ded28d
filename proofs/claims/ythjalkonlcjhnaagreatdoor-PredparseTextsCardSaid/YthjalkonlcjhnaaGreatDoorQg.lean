/-
  The parser's chains, walked.
  Conditions: as each theorem says.
-/
import Derived.Test.YthjalkonlcjhnaaGreatDoorQf
namespace Go.Proofs.YthjalkonlcjhnaaGreatDoor
open Go.RowKit
def jV (js : List (ByteArray × Int)) : List Value := js.flatMap (fun j => [.string j.1, .int .i64 j.2])
theorem jV_get : ∀ (l : List (ByteArray × Int)) (k : Nat) (S : ByteArray) (i : Int), l[k]? = some (S, i) → (jV l)[k * 2]? = some (.string S) ∧ (jV l)[k * 2 + 1]? = some (.int .i64 i)
  | [], k, S, i, h => by simp at h
  | y :: l, 0, S, i, h => by
    simp at h; subst h
    exact ⟨rfl, rfl⟩
  | y :: l, k + 1, S, i, h => by
    obtain ⟨h1, h2⟩ := jV_get l k S i (by simpa using h)
    have e : jV (y :: l) = [.string y.1, .int .i64 y.2] ++ jV l := rfl
    rw [e]
    constructor
    · rw [List.getElem?_append_right (by simp; omega), ← h1]; congr 1; simp; omega
    · rw [List.getElem?_append_right (by simp; omega), ← h2]; congr 1; simp; omega
def jL (js : List (ByteArray × Int)) : List (List UInt8 × Int) := js.map (fun j => (j.1.data.toList, j.2))
theorem pick_none {js : List (ByteArray × Int)} {s : St} (h : ∀ (i : Nat) S kk, js[i]? = some (S, kk) → takeB s S.data.toList = false) : pickS (jL js) s = none := by
  unfold pickS
  rw [List.find?_eq_none.2]
  · rfl
  · intro x hx
    unfold jL at hx
    obtain ⟨y, hy, rfl⟩ := List.mem_map.1 hx
    obtain ⟨i, hi⟩ := List.mem_iff_getElem?.1 hy
    rw [h i y.1 y.2 hi]; simp
theorem pick_at {s : St} : ∀ {js : List (ByteArray × Int)} {j : Nat} {S : ByteArray} {kk : Int}, (∀ (i : Nat) S kk, i < j → js[i]? = some (S, kk) → takeB s S.data.toList = false) → js[j]? = some (S, kk) → takeB s S.data.toList = true → pickS (jL js) s = some kk
  | [], j, S, kk, _, h, _ => by simp at h
  | y :: l, 0, S, kk, _, h, ht => by
    simp at h; subst h
    unfold pickS jL
    rw [List.map_cons, List.find?_cons_of_pos (by exact ht)]
    rfl
  | y :: l, j + 1, S, kk, hn, h, ht => by
    have h0 := hn 0 y.1 y.2 (Nat.succ_pos j) rfl
    have ih := pick_at (js := l) (j := j) (S := S) (kk := kk) (s := s) (fun i S kk hi hj => hn (i + 1) S kk (by omega) (by simpa using hj)) (by simpa using h) ht
    unfold pickS jL at ih ⊢
    rw [List.map_cons, List.find?_cons_of_neg (by show ¬ takeB s y.1.data.toList = true; rw [h0]; simp)]
    exact ih
theorem chain_stop {n lv : Nat} {t : Tr} {s : St} (h : pickS (joints lv) s = none) : lvS n lv (some t) s = (t, s) := by
  cases n with
  | zero => rfl
  | succ n => unfold lvS; rw [h]
theorem chain_go {n lv : Nat} {t : Tr} {s : St} {k : Int} (h : pickS (joints lv) s = some k) : lvS (n + 1) lv (some t) s = lvS n lv (some (nd k [t, (lvS n (lv + 1) none s.tl).1])) (lvS n (lv + 1) none s.tl).2 := by
  conv => lhs; unfold lvS
  rw [h]
/-- what a chain keeps in memory: the result's block, the tree so far in block P0, the state -/
def ChW (w : World) (g b P0 : Nat) (t : Tr) (s : St) (cs : List Value) (wr : World) : Prop :=
  Zero6 wr w.heap.size ∧ Blk wr P0 24 cs ∧ TrC (fun c => w.heap.size + 1 ≤ c ∧ c ≠ P0) wr t cs ∧ Pst wr g b s ∧ Exg g w wr ∧ w.heap.size + 1 ≤ P0
theorem ChW.ex {w : World} {g b P0 : Nat} {t : Tr} {s : St} {cs : List Value} {wr wr' : World} (h : ChW w g b P0 t s cs wr) (hx : Ex wr wr') : ChW w g b P0 t s cs wr' := by
  obtain ⟨h1, h2, h3, h4, h5, h6⟩ := h
  exact ⟨h1.ex hx, h2.ex hx, h3.ex hx, h4.ex hx, h5.ex hx, h6⟩
theorem ChW.go {w : World} {g b P0 : Nat} {t : Tr} {s s' : St} {cs : List Value} {wr wr' : World} (h : ChW w g b P0 t s cs wr) (hg : g < w.heap.size) (hp : Pst wr' g b s') (hx : Exg g wr wr') : ChW w g b P0 t s' cs wr' := by
  obtain ⟨h1, h2, h3, h4, h5, h6⟩ := h
  exact ⟨hx.blk h1 (by omega), hx.blk h2 (by omega), h3.exg (fun c h => by omega) hx, hp, h5.trans hx, h6⟩
/-- six cells of a tree -/
abbrev c6 (k n p q : Int) (S : ByteArray) (A : Option Addr) (m c : Nat) : List Value := [.int .i64 k, .int .i64 n, .int .i64 p, .int .i64 q, .string S, .slice A m c]
theorem ChW.two {w : World} {g b P0 : Nat} {t u : Tr} {s s2 : St} {k n p q k2 n2 p2 q2 kk : Int} {S S2 : ByteArray} {A A2 : Option Addr} {m c m2 c2 : Nat} {wr w4 : World} (h : ChW w g b P0 t s (c6 k n p q S A m c) wr) (hg : g < w.heap.size) (hb : b < w.heap.size)
    (hx : Exg g wr w4) (hp : Pst w4 g b s2) (hu : TrC (fun c => wr.heap.size ≤ c) w4 u (c6 k2 n2 p2 q2 S2 A2 m2 c2)) :
    ChW w g b P0 (nd kk [t, u]) s2 (c6 kk 0 0 0 ⟨#[]⟩ (some ⟨w4.heap.size, 0, none⟩) 2 2)
      ((st6 w4 P0 (.int .i64 kk) (.int .i64 0) (.int .i64 0) (.int .i64 0) (.string ⟨#[]⟩) (.slice (some ⟨w4.heap.size, 0, none⟩) 2 2)).alloc (.cells #[.int .i64 k, .int .i64 n, .int .i64 p, .int .i64 q, .string S, .slice A m c, .int .i64 k2, .int .i64 n2, .int .i64 p2, .int .i64 q2, .string S2, .slice A2 m2 c2] 24)) := by
  obtain ⟨h1, h2, h3, h4, h5, h6⟩ := h
  have hP := h2.lt
  have g1 : g ≠ P0 := by omega
  have b1 : b ≠ P0 := by omega
  have z1 : w.heap.size ≠ P0 := by omega
  have hs4 := hx.size
  have h3' := (h3.exg (fun c h => by omega) hx)
  have hu' := hu.imp (Q' := fun c => w.heap.size + 1 ≤ c ∧ c ≠ P0) (fun c _ h => ⟨by omega, by omega⟩)
  have q1 : ∀ c, (w.heap.size + 1 ≤ c ∧ c ≠ P0) → c ≠ P0 := fun c h => h.2
  have hP2 : w.heap.size ≤ P0 := by omega
  refine ⟨?_, (blk6 (hx.blk h2 (by omega)) _ _ _ _ _ _).alloc _, ?_, ?_, ?_, h6⟩
  · exact (((((((hx.blk h1 (by omega)).far z1 _).far z1 _).far z1 _).far z1 _).far z1 _).far z1 _).alloc _
  · exact TrC.two (((((((h3'.far q1 _).far q1 _).far q1 _).far q1 _).far q1 _).far q1 _).ex ((Ex.refl _).alloc _)) (((((((hu'.far q1 _).far q1 _).far q1 _).far q1 _).far q1 _).far q1 _).ex ((Ex.refl _).alloc _)) kk (Blk.new' _ (size6 _ _ _ _ _ _ _ _).symm _ _) ⟨by omega, by omega⟩
  · exact ((((((hp.far g1 b1 _).far g1 b1 _).far g1 b1 _).far g1 b1 _).far g1 b1 _).far g1 b1 _).ex ((Ex.refl _).alloc _)
  · exact (((((((h5.trans hx).new_ hP2 _).new_ hP2 _).new_ hP2 _).new_ hP2 _).new_ hP2 _).new_ hP2 _).alloc _
def ChRel (w : World) (g b lv f P0 gk : Nat) (RES : Tr × St) (qq : Bool) (t : Tr) (s : St) (n' : Nat) (cs : List Value) (wr : World) : Prop :=
  ChW w g b P0 t s cs wr ∧ (qq = true → gk = n' + 1 ∧ n' ≤ f ∧ lvS n' lv (some t) s = RES ∧ (0 < mS s → 10 * mS s + 10 ≤ n' + lv)) ∧ (qq = false → (t, s) = RES)
set_option maxRecDepth 20000 in
set_option maxHeartbeats 4000000 in
theorem chain_lv {N : FuncId} {f lv : Nat} (hlv : lv ≤ 5) (js : List (ByteArray × Int)) (hjs : joints lv = jL js) (hcall : ∀ (args : Array Value) (w : World), Sem.run Tryz.prog (callFunc N args) w = .ok (.enter N args) w) (hN : ∀ f', f' ≤ f → LvC N f' (lv + 1)) (g b jb : Nat) (s : St) (w : World) (h : Pst w g b s)
    (hJ : Blk w jb 87 (jV js)) (hjg : jb ≠ g) (hjl : js.length ≤ 10) (hf : 10 * mS s + (20 - lv) ≤ f + 1) :
    Calls Tryz.prog 77 #[.pointer (some ⟨g, 0, none⟩), .func (.func N) #[.pointer (some ⟨g, 0, none⟩)] #[], .slice (some ⟨jb, 0, none⟩) js.length js.length] w
      (TreeR w g b (lvS f lv (some (lvS f (lv + 1) none s).1) (lvS f (lv + 1) none s).2)) := by
  obtain ⟨hg, hbz, hbg⟩ := h.bounds
  have HZ : Hid (Zero6 (w.alloc (.cells #[.int .i64 0, .int .i64 0, .int .i64 0, .int .i64 0, .string ⟨#[]⟩, .slice none 0 0] 24)) w.heap.size) := Blk.new w _ _
  have HP := Lib.hid h
  have HB := Lib.hid (And.intro hg (And.intro hbz hbg))
  have H1 := Lib.hid (fun w' (hp : Pst w' g b s) => hN f (Nat.le_refl _) g b s w' hp (by omega))
  have HH := Lib.hid (fun f' (hf' : f' ≤ f) (s' : St) w' (hp : Pst w' g b s') (hm : 10 * mS s' + (20 - (lv + 1)) ≤ f') => hN f' hf' g b s' w' hp hm)
  have hm0 := (lv_aft f (lv + 1) none s).m
  obtain ⟨t0, s0, hR0⟩ : ∃ t0 s0, lvS f (lv + 1) none s = (t0, s0) := ⟨_, _, rfl⟩
  rw [hR0] at H1 hm0 ⊢
  dsimp only at hm0 ⊢
  obtain ⟨RES, hRES⟩ : ∃ R, R = lvS f lv (some t0) s0 := ⟨_, rfl⟩
  rw [← hRES]
  have H0 : Hid (lvS f lv (some t0) s0 = RES ∧ (0 < mS s0 → 10 * mS s0 + 10 ≤ f + lv)) := ⟨hRES.symm, by omega⟩
  have HJ := Lib.hid (fun wr (hx : Exg g w wr) => hx.blk hJ hjg)
  have HGt : Hid (∀ k, k < js.length → ∃ S kk, js[k]? = some (S, kk)) := fun k hk => ⟨(js[k]).1, (js[k]).2, List.getElem?_eq_getElem hk⟩
  have HJs := Lib.hid hjs
  have HLv := Lib.hid hlv
  unfold TreeR at H1
  clear h hR0 hRES hJ hN hf hm0 hg hbz hbg hjs hlv hjg
  go_enter Tryz.func77, Tryz.ntmps77
  go_wp2_with fail
  refine (H1.out _ (HP.out.ex ((Ex.refl _).alloc _))).mono ?_
  rintro e w1 ⟨k, n, p, q, S, A, m, c, rfl, ht, hp, hx⟩
  have hs1 : w.heap.size + 1 ≤ w1.heap.size := by have := hx.size; rw [World.size_alloc] at this; exact this
  have HC0 : Hid (ChW w g b w1.heap.size t0 s0 (c6 k n p q S A m c) (w1.alloc (.cells #[.int .i64 k, .int .i64 n, .int .i64 p, .int .i64 q, .string S, .slice A m c] 24))) := by
    refine ⟨(hx.blk HZ.out (Nat.ne_of_gt HB.out.1)).alloc _, Blk.new _ _ _, (ht.imp (fun c h1 h2 => ?_)).ex ((Ex.refl _).alloc _), hp.ex ((Ex.refl _).alloc _), (((Exg.refl g w).alloc _).trans hx).alloc _, hs1⟩
    rw [World.size_alloc] at h2
    exact ⟨h2, by omega⟩
  clear ht hp hx hs1 H1
  go_wp2_with fail
  generalize hP0 : w1.heap.size = P0 at HC0 ⊢
  clear hP0
  go_loopg [8] (f + 1) (fun gk a wr => ∃ (qq : Bool) (t : Tr) (s' : St) (n' : Nat) (k n p q : Int) (S : ByteArray) (A : Option Addr) (m c : Nat), a = .bool qq ∧ Hid (ChRel w g b lv f P0 gk RES qq t s' n' (c6 k n p q S A m c) wr))
  case atStart => exact ⟨true, t0, s0, f, k, n, p, q, S, A, m, c, rfl, Lib.hid ⟨HC0.out, (fun _ => ⟨rfl, Nat.le_refl _, H0.out⟩), (fun h => by cases h)⟩⟩
  case round =>
    obtain ⟨qq, t, s', n', k, n, p, q, S, A, m, c, rfl, hrel⟩ := hrel
    obtain ⟨hcw, hq1, hq2⟩ := hrel.out
    clear HC0 H0
    cases qq with
    | false =>
      have HRs := Lib.hid (hq2 rfl)
      obtain ⟨hz, hp0, htr, hpst, hxg, hP⟩ := hcw
      have s0 := hp0.cell 0
      have s1 := hp0.cell 1
      have s2 := hp0.cell 2
      have s3 := hp0.cell 3
      have s4 := hp0.cell 4
      have s5 := hp0.cell 5
      simp only [List.getElem?_cons_zero, List.getElem?_cons_succ] at s0 s1 s2 s3 s4 s5
      have ls := hp0.lt
      have lz := hz.lt
      have r0 := hz.cell 0
      have r1 := hz.cell 1
      have r2 := hz.cell 2
      have r3 := hz.cell 3
      have r4 := hz.cell 4
      have r5 := hz.cell 5
      simp only [List.getElem?_cons_zero, List.getElem?_cons_succ] at r0 r1 r2 r3 r4 r5
      have f0 := hz.frozen 0
      have f1 := hz.frozen 1
      have f2 := hz.frozen 2
      have f3 := hz.frozen 3
      have f4 := hz.frozen 4
      have f5 := hz.frozen 5
      have Hz := Lib.hid hz
      have HTr := Lib.hid htr
      have HPs := Lib.hid hpst
      have HXg := Lib.hid hxg
      clear hz hp0 htr hpst hxg hq1 hq2 hrel
      go_wp2_with fail
      rw [← HRs.out]
      refine bodyPost_ret (results_pred rfl rfl (blk6 Hz.out _ _ _ _ _ _)) rfl ?_
      exact fin6 (Q := fun c => w.heap.size + 1 ≤ c ∧ c ≠ P0) (Nat.le_refl _) HTr.out (fun c h => ⟨by omega, by omega⟩) HPs.out HB.out.1 HB.out.2.1 HXg.out
    | true =>
      obtain ⟨hgk, hnf, hl, hfu⟩ := hq1 rfl
      have HQ := Lib.hid (And.intro hgk (And.intro hnf (And.intro hl hfu)))
      have HCW := Lib.hid hcw
      clear hq1 hq2 hrel hcw hgk hnf hl hfu
      obtain ⟨wo, rfl⟩ : ∃ wo : World, wo = wr := ⟨_, rfl⟩
      go_wp2_with fail
      go_loopw [8, 16] (fun a8 i wr2 => a8 = .bool false ∧ ∃ j : Nat, i = .int .i64 j ∧ j ≤ js.length ∧ Hid (ChW w g b P0 t s' (c6 k n p q S A m c) wr2 ∧ ∀ (i : Nat) (S : ByteArray) (kk : Int), i < j → js[i]? = some (S, kk) → takeB s' S.data.toList = false)) (fun _ i _ => js.length - (intOf i).toNat)
      case atStart => exact ⟨rfl, 0, rfl, Nat.zero_le _, Lib.hid ⟨HCW.out, (fun i S kk h => absurd h (by omega))⟩⟩
      case round =>
        obtain ⟨rfl, j, rfl, hj, HH2⟩ := hrel
        by_cases hlt : j < js.length
        · have n1 : (j : Int) < (js.length : Int) := by omega
          have n0 : (0 : Int) ≤ (j : Int) := by omega
          obtain ⟨SJ, kk, hjk⟩ := HGt.out j hlt
          obtain ⟨hcw, hno⟩ := HH2.out
          have hbj := HJ.out _ hcw.2.2.2.2.1
          obtain ⟨g1, g2⟩ := jV_get js j SJ kk hjk
          have b0 := hbj.cell (j * 2)
          have b1 := hbj.cell (j * 2 + 1)
          rw [g1] at b0
          rw [g2] at b1
          have lj := hbj.lt
          have HK := Lib.hid hjk
          have HNo := Lib.hid hno
          have HC := Lib.hid hcw
          clear g1 g2 hbj hjk hno hcw HH2
          cases hb : takeB s' SJ.data.toList with
          | false =>
            have HT := Lib.hid (fun w' (hp : Pst w' g b s') => take_f g b s' SJ w' hp hb)
            have Hb := Lib.hid hb
            clear hb
            go_wp2_with fail
            refine (HT.out _ (HC.out.2.2.2.1.ex ((Ex.refl _).alloc _))).mono ?_
            rintro e w3 ⟨rfl, hp, hx⟩
            have HC3 := Lib.hid ((HC.out.ex ((Ex.refl _).alloc (.cells #[.string SJ, .int .i64 kk] 87))).go HB.out.1 hp hx)
            clear hp hx
            go_wp2_with fail
            refine ⟨⟨rfl, j + 1, by go_num, by omega, Lib.hid ⟨HC3.out, fun i S' kk' hi hik => ?_⟩⟩, by simp [intOf]; omega⟩
            by_cases hij : i = j
            · subst hij
              rw [HK.out] at hik
              injection hik with hik
              injection hik with h1 h2
              rw [← h1]; exact Hb.out
            · exact HNo.out i S' kk' (by omega) hik
          | true =>
            have HT := Lib.hid (fun w' (hp : Pst w' g b s') => take_t g b s' SJ w' hp hb)
            have hpk : pickS (joints lv) s' = some kk := by
              rw [HJs.out]
              exact pick_at HNo.out HK.out hb
            have hm := take_m hb
            obtain ⟨hgk, hnf, hl, hfu⟩ := HQ.out
            have hlv := HLv.out
            have hfu' := hfu (by omega)
            obtain ⟨n1', rfl⟩ : ∃ n1', n' = n1' + 1 := ⟨n' - 1, by omega⟩
            have HO := Lib.hid (fun w' (hp : Pst w' g b s'.tl) => HH.out n1' (by omega) s'.tl w' hp (by omega))
            rw [chain_go hpk] at hl
            have ham := (lv_aft n1' (lv + 1) none s'.tl).m
            obtain ⟨u, s2, hus⟩ : ∃ u s2, lvS n1' (lv + 1) none s'.tl = (u, s2) := ⟨_, _, rfl⟩
            rw [hus] at HO hl ham
            dsimp only at hl ham
            have HL : Hid (lvS n1' lv (some (nd kk [t, u])) s2 = RES ∧ n1' ≤ f ∧ (0 < mS s2 → 10 * mS s2 + 10 ≤ n1' + lv) ∧ n1' + 1 < gk) := ⟨hl, by omega, by omega, by omega⟩
            unfold TreeR at HO
            clear hb hpk hm hgk hnf hl hfu hlv hfu' ham hus HQ
            go_wp2_with fail
            refine (HT.out _ (HC.out.2.2.2.1.ex ((Ex.refl _).alloc _))).mono ?_
            rintro e w3 ⟨rfl, hp, hx⟩
            have HC3 := Lib.hid ((HC.out.ex ((Ex.refl _).alloc (.cells #[.string SJ, .int .i64 kk] 87))).go HB.out.1 hp hx)
            have hX0 : Blk w3 wr.heap.size 87 [.string SJ, .int .i64 kk] := hx.blk (Blk.new wr _ _) (by have h1 := HC.out.2.2.2.2.1.size; have h2 := HB.out.1; omega)
            have lX := hX0.lt
            have hgX : wr.heap.size ≠ g := by have h1 := HC.out.2.2.2.2.1.size; have h2 := HB.out.1; omega
            have x0 : w3.cell? ⟨wr.heap.size, 1, none⟩ = some (.int .i64 kk) := hX0.cell 1
            obtain ⟨hz, hp0, htr, hpst, hxg, hP⟩ := HC3.out
            have t0' := hp0.cell 0
            have t1 := hp0.cell 1
            have t2 := hp0.cell 2
            have t3 := hp0.cell 3
            have t4 := hp0.cell 4
            have t5 := hp0.cell 5
            simp only [List.getElem?_cons_zero, List.getElem?_cons_succ] at t0' t1 t2 t3 t4 t5
            have lt0 := hp0.lt
            have HX0 := Lib.hid hX0
            have HGX : Hid (wr.heap.size ≠ g) := hgX
            have HP3 : Hid (P0 ≠ g) := by have h2 := HB.out.1; show _ ≠ _; omega
            clear hp hx hX0 hz hp0 htr hpst hxg hP hgX
            go_upto_region 9 with fail
            go_region_with (refine (HO.out _ (by first | exact HC3.out.2.2.2.1 | exact HC3.out.2.2.2.1.ex ((Ex.refl _).drew))).mono ?_; rintro e w4 ⟨k2, n2, p2, q2, S2, A2, m2, c2, rfl, ht4, hp4, hx4'⟩; have hx4 : Exg g w3 w4 := (by first | exact hx4' | exact ((Exg.refl g w3).drew).trans hx4'); have y0 : w4.cell? ⟨wr.heap.size, 1, none⟩ = some (.int .i64 kk) := (hx4.blk HX0.out HGX.out).cell 1; have z0 : w4.cell? ⟨P0, 0, none⟩ = some (.int .i64 k) := (hx4.blk HC3.out.2.1 HP3.out).cell 0; have z1 : w4.cell? ⟨P0, 1, none⟩ = some (.int .i64 n) := (hx4.blk HC3.out.2.1 HP3.out).cell 1; have z2 : w4.cell? ⟨P0, 2, none⟩ = some (.int .i64 p) := (hx4.blk HC3.out.2.1 HP3.out).cell 2; have z3 : w4.cell? ⟨P0, 3, none⟩ = some (.int .i64 q) := (hx4.blk HC3.out.2.1 HP3.out).cell 3; have z4 : w4.cell? ⟨P0, 4, none⟩ = some (.string S) := (hx4.blk HC3.out.2.1 HP3.out).cell 4; have z5 : w4.cell? ⟨P0, 5, none⟩ = some (.slice A m c) := (hx4.blk HC3.out.2.1 HP3.out).cell 5; have e0 := (hx4.blk HC3.out.2.1 HP3.out).frozen 0; have e1 := (hx4.blk HC3.out.2.1 HP3.out).frozen 1; have e2 := (hx4.blk HC3.out.2.1 HP3.out).frozen 2; have e3 := (hx4.blk HC3.out.2.1 HP3.out).frozen 3; have e4 := (hx4.blk HC3.out.2.1 HP3.out).frozen 4; have e5 := (hx4.blk HC3.out.2.1 HP3.out).frozen 5; have l4 := (hx4.blk HC3.out.2.1 HP3.out).lt; have l5 := (hx4.blk HX0.out HGX.out).lt; have HT4 := Lib.hid ht4; have HP4 := Lib.hid hp4; have HX4 := Lib.hid hx4; clear ht4 hp4 hx4 hx4')
            all_goals
              have HC4 := Lib.hid (HC3.out.two (kk := kk) HB.out.1 HB.out.2.1 HX4.out HP4.out (HT4.out.imp (fun c _ h => h)))
              go_wp2_with fail
              go_roundg (n1' + 1)
              case measure => exact HL.out.2.2.2
              case rel => exact ⟨true, nd kk [t, u], s2, n1', kk, 0, 0, 0, ⟨#[]⟩, some ⟨w4.heap.size, 0, none⟩, 2, 2, rfl, Lib.hid ⟨HC4.out, (fun _ => ⟨rfl, HL.out.2.1, HL.out.1, HL.out.2.2.1⟩), (fun h => by cases h)⟩⟩
        · have n1 : decide ((j : Int) < (js.length : Int)) = false := decide_eq_false (by omega)
          have n2 : decide (j < js.length) = false := decide_eq_false (by omega)
          obtain ⟨hcw, hno⟩ := HH2.out
          have hst : pickS (joints lv) s' = none := by
            rw [HJs.out]
            exact pick_none (fun i S kk h => hno i S kk (by have := (List.getElem?_eq_some_iff.1 h).1; omega) h)
          have hres := HQ.out.2.2.1
          rw [chain_stop hst] at hres
          have HRs := Lib.hid hres
          have HC := Lib.hid hcw
          clear hlt hcw hno hst hres HH2
          go_wp2_with fail
          go_roundg n'
          case measure => have := HQ.out.1; omega
          case rel => exact ⟨false, t, s', n', k, n, p, q, S, A, m, c, rfl, Lib.hid ⟨HC.out, (fun h => by cases h), (fun _ => HRs.out)⟩⟩
end Go.Proofs.YthjalkonlcjhnaaGreatDoor
