/-
  The law's function lines, walked.
  Conditions: as each theorem says.
-/
import Derived.Test.YtdenojfbdkdpiaaPa
import Derived.Test.YtdenojfbdkdpiaaPb
import Derived.Test.YtdenojfbdkdpiaaYn
import Derived.Deep.RegionHeld3
namespace Go.Proofs.Ytdenojfbdkdpiaa
open Go.RowKit Go.Shelf
theorem digs_more : ∀ (l : List (List Int)) (k p : Nat) (r : List Int) (d : Nat), (∀ r, r ∈ l → r ≠ []) → k < totL l → l[p]? = some r → (digs l k)[p]? = some d → d + 1 < r.length → k + 1 < totL l
  | [], k, p, r, d, _, _, h, _, _ => by simp at h
  | x :: l, k, 0, r, d, hne, hk, h, hd, hlt => by
    simp only [List.getElem?_cons_zero, Option.some.injEq] at h
    subst h
    unfold digs at hd
    simp only [List.getElem?_cons_zero, Option.some.injEq] at hd
    subst hd
    rw [totL_cons] at hk ⊢
    have e1 := Nat.div_add_mod k x.length
    have h1 : k / x.length < totL l := Nat.div_lt_of_lt_mul hk
    have h2 := Nat.mul_le_mul_left x.length h1
    rw [Nat.mul_succ] at h2
    omega
  | x :: l, k, p + 1, r, d, hne, hk, h, hd, hlt => by
    unfold digs at hd
    rw [totL_cons] at hk ⊢
    have hx : 0 < x.length := List.length_pos_iff.2 (hne x List.mem_cons_self)
    have h1 := digs_more l (k / x.length) p r d (fun r hr => hne r (List.mem_cons_of_mem _ hr)) (Nat.div_lt_of_lt_mul hk) (by simpa using h) (by simpa using hd) hlt
    have e1 := Nat.div_add_mod k x.length
    have e2 := Nat.mod_lt k hx
    have h2 := Nat.mul_le_mul_left x.length h1
    rw [Nat.mul_succ, Nat.mul_succ] at h2
    omega
theorem list_allR {α : Type} {xs ys : List α} (hl : xs.length = ys.length) (h : ∀ (i : Nat) (a b : α), xs[i]? = some a → ys[i]? = some b → a = b) : xs = ys := by
  apply List.ext_getElem?
  intro i
  by_cases hi : i < xs.length
  · obtain ⟨a, ha⟩ := get_at hi
    obtain ⟨b, hb⟩ := get_at (show i < ys.length by omega)
    rw [ha, hb, h i a b ha hb]
  · rw [List.getElem?_eq_none (by omega), List.getElem?_eq_none (by omega)]
theorem mkInt_zero (n : Nat) : madeCells #[.int .i64 0] (n * 1) = (intsV (List.replicate n 0)).toArray := by
  unfold madeCells intsV
  apply Array.ext
  · simp
  · intro i h1 h2
    simp [Nat.mod_one]
theorem mk_ints (n : Nat) (L : Int) (hL : L = n) (hn : n ≤ 1000000000) (W : World) : (Instr.makeSlice 39 (.int .i64 L) (.int .i64 L)).run Try.prog W = .ok (.slice (some ⟨W.heap.size, 0, none⟩) n n) (W.alloc (.cells (intsV (List.replicate n 0)).toArray 3)) := by
  subst hL
  obtain ⟨i, hi, hz, hs, hb⟩ := info_parts infoInt
  have h := run_make (P := Try.prog) W 39 3 i (.int .i64 0) Try.underlying39 hi hz .i64 .i64 (n : Int) (n : Int) (by omega) (Int.le_refl _) (by rw [hb]; omega) (by omega)
  rw [h, hs]
  rw [show ((n : Int)).toNat = n by omega]
  have e := mkInt_zero n
  simp only [Value.cells]
  rw [e]
/-- the choices that are lines, among the first k -/
noncomputable def visL (t : List Pr) (l : List (List Int)) (k : Nat) : List (List Int) := ((prodL l).take k).filter (conB t)
theorem vis_step {t : List Pr} {l : List (List Int)} {k : Nat} {cs : List Int} (h : (prodL l)[k]? = some cs) : visL t l (k + 1) = visL t l k ++ (if conB t cs = true then [cs] else []) := by
  unfold visL
  rw [take_snoc h, List.filter_append]
  congr 1
  by_cases hc : conB t cs = true <;> simp [hc]
theorem vis_len (t : List Pr) (l : List (List Int)) (k : Nat) : (visL t l k).length ≤ k := by
  unfold visL
  exact Nat.le_trans (List.length_filter_le _ _) (by rw [List.length_take]; exact Nat.min_le_left _ _)
def natsI (ds : List Nat) : List Int := ds.map fun (d : Nat) => (d : Int)
theorem natsI_get {ds : List Nat} {p d : Nat} (h : ds[p]? = some d) : (intsV (natsI ds))[p]? = some (.int .i64 (d : Nat)) := by
  refine intsV_get ?_
  unfold natsI
  rw [List.getElem?_map, h]
  rfl
theorem natsI_set (ds : List Nat) (p d : Nat) : (intsV (natsI ds)).set p (.int .i64 (d : Nat)) = intsV (natsI (ds.set p d)) := by
  rw [intsV_set]
  unfold natsI
  rw [List.map_set]
theorem natsI_zero (n : Nat) : natsI (List.replicate n 0) = List.replicate n 0 := by simp [natsI]
/-- what a visiting function keeps: the caller's own blocks, and old data -/
structure Kv (b : Nat) (wd w w' : World) : Prop where
  size : w.heap.size ≤ w'.heap.size
  blk : ∀ k, b ≤ k → k < w.heap.size → w'.heap[k]? = w.heap[k]?
  ex : Ex wd w → Ex wd w'
theorem Kv.get {b : Nat} {wd w w' : World} (h : Kv b wd w w') {g ty : Nat} {cs : List Value} (hg : b ≤ g) (hB : Blk w g ty cs) : Blk w' g ty cs := (h.blk g hg hB.lt).trans hB
/-- the frame of lines: its box, the counters, the cut, old data, what is gathered -/
structure LnF (t : List Pr) (A : Option Addr) (c : Nat) (n0 : Nat) (wd : World) (cs : List Int) (ds : List Nat) (G : World → Prop) (w : World) : Prop where
  box : Blk w n0 24 [.slice A t.length c]
  cut : Blk w (n0 + 1) 3 (intsV cs)
  at_ : Blk w (n0 + 1 + 1) 3 (intsV (natsI ds))
  ex : Ex wd w
  got : G w
theorem LnF.exk {t : List Pr} {A : Option Addr} {c n0 : Nat} {wd : World} {cs : List Int} {ds : List Nat} {G : World → Prop} (hG : ∀ X Y, G X → Below n0 X Y → G Y) {w w' : World} (h : LnF t A c n0 wd cs ds G w) (hx : Ex w w') : LnF t A c n0 wd cs ds G w' :=
  ⟨h.box.ex hx, h.cut.ex hx, h.at_.ex hx, h.ex.trans hx, hG _ _ h.got (hx.below.mono (Nat.le_of_lt h.box.lt))⟩
theorem LnF.setC {t : List Pr} {A : Option Addr} {c n0 : Nat} {wd : World} {cs : List Int} {ds : List Nat} {G : World → Prop} (hG : ∀ X Y, G X → Below n0 X Y → G Y) (hwd : wd.heap.size ≤ n0) {w : World} (h : LnF t A c n0 wd cs ds G w) (p : Nat) (a : Int) : LnF t A c n0 wd (cs.set p a) ds G (w.setCell ⟨n0 + 1, p, none⟩ (.int .i64 a)) :=
  ⟨h.box.far (p := ⟨n0 + 1, p, none⟩) (by show n0 ≠ n0 + 1; omega) _, by rw [← intsV_set]; exact h.cut.set_ p _, h.at_.far (p := ⟨n0 + 1, p, none⟩) (by show n0 + 1 + 1 ≠ n0 + 1; omega) _, h.ex.setCell (p := ⟨n0 + 1, p, none⟩) (by show _ ≤ n0 + 1; omega) _, hG _ _ h.got ((Below.refl _ _).setCell (by show n0 ≤ n0 + 1; omega) _)⟩
theorem LnF.setA {t : List Pr} {A : Option Addr} {c n0 : Nat} {wd : World} {cs : List Int} {ds : List Nat} {G : World → Prop} (hG : ∀ X Y, G X → Below n0 X Y → G Y) (hwd : wd.heap.size ≤ n0) {w : World} (h : LnF t A c n0 wd cs ds G w) (p d : Nat) : LnF t A c n0 wd cs (ds.set p d) G (w.setCell ⟨n0 + 1 + 1, p, none⟩ (.int .i64 (d : Nat))) :=
  ⟨h.box.far (p := ⟨n0 + 1 + 1, p, none⟩) (by show n0 ≠ n0 + 1 + 1; omega) _, h.cut.far (p := ⟨n0 + 1 + 1, p, none⟩) (by show n0 + 1 ≠ n0 + 1 + 1; omega) _, by rw [← natsI_set]; exact h.at_.set_ p _, h.ex.setCell (p := ⟨n0 + 1 + 1, p, none⟩) (by show _ ≤ n0 + 1 + 1; omega) _, hG _ _ h.got ((Below.refl _ _).setCell (by show n0 ≤ n0 + 1 + 1; omega) _)⟩
set_option maxRecDepth 100000 in
set_option maxHeartbeats 6400000 in
theorem lines_c {N : FuncId} {caps : Array Value} (hcall : ∀ (args : Array Value) (w : World), Sem.run Try.prog (callFunc N args) w = .ok (.enter N args) w) (t : List Pr) (A : Option Addr) (c : Nat) (l : List (List Int)) (B : Option Addr) (lc : Nat) (J : List (List Int) → World → Prop) (wd w : World) (hT : TcC wd A t) (hs : TSm t) (hv : cpB t l = true) (hL : LlC wd B l) (hls : LSm l) (hxd : Ex wd w)
    (hJ0 : J [] w) (hJs : ∀ vs X Y, J vs X → Below w.heap.size X Y → J vs Y)
    (hJf : ∀ vs cs Ac cc w', J vs w' → Ex wd w' → Row w' Ac (intsV cs) → cs.length = l.length → IsLine (msgs t) l cs → vs.length < totL l → Calls Try.prog N (#[.slice Ac l.length cc] ++ caps) w' (fun e w'' => e = .returned (.tuple #[]) ∧ J (vs ++ [cs]) w'' ∧ Kv w.heap.size wd w' w'')) :
    Calls Try.prog 18 #[.agg #[.slice A t.length c], .slice B l.length lc, .func (.func N) #[] caps] w (fun e w' => e = .returned (.tuple #[]) ∧ J ((prodL l).filter (conB t)) w' ∧ Ex wd w' ∧ w.heap.size ≤ w'.heap.size) := by
  have hcp := (cp_of hv).2
  have hasc := cp_asc hcp
  have hne : ∀ r, r ∈ l → r ≠ [] := fun r hr h => by
    obtain ⟨p, hp⟩ := List.mem_iff_getElem?.1 hr
    have := asc_pos (hasc p r hp)
    rw [h] at this
    exact absurd this (Nat.lt_irrefl _)
  have hlr := hls.rows
  have HT : Hid (∀ w', Ex wd w' → TcC w' A t) := fun w' h => hT.ex h
  have HL : Hid (∀ w', Ex wd w' → LlC w' B l) := fun w' h => hL.ex h
  have HCn := Lib.hid (fun cs C cc w' (h : Ex wd w') (hC : Row w' C (intsV cs)) => rCons_c t A c cs C cc w' (hT.ex h) hs hC)
  have HRl : Hid (∀ (p : Nat) (r : List Int), l[p]? = some r → r.length ≤ 100000) := fun p r hr => hls.each r (List.mem_of_getElem? hr)
  have HNe := Lib.hid hne
  have HLine : Hid (∀ k cs, (prodL l)[k]? = some cs → conB t cs = true → cs.length = l.length ∧ IsLine (msgs t) l cs) := fun k cs hk hc => by
    obtain ⟨h1, h2⟩ := (mem_prod l cs).1 (List.mem_of_getElem? hk)
    exact ⟨h1, ⟨h1, h2, (conB_iff.1 hc).2.2.2⟩⟩
  have HJ0 := Lib.hid hJ0
  have HJs := Lib.hid hJs
  have HJf := Lib.hid hJf
  have hwd : wd.heap.size ≤ w.heap.size := hxd.below.size
  have HXd := Lib.hid hxd
  have htp := totL_pos l hne
  obtain ⟨W0, hW0⟩ : ∃ W0, W0 = ((w.alloc (.cells #[.slice A t.length c] 24)).alloc (.cells (intsV (List.replicate l.length 0)).toArray 3)).alloc (.cells (intsV (List.replicate l.length 0)).toArray 3) := ⟨_, rfl⟩
  have HF0 : Hid (LnF t A c w.heap.size wd (List.replicate l.length 0) (digs l 0) (J (visL t l 0)) W0) := by
    refine ⟨?_, ?_, ?_, ?_, ?_⟩
    · rw [hW0]; exact ((Blk.new w _ _).alloc _).alloc _
    · rw [hW0, show w.heap.size + 1 = (w.alloc (.cells #[.slice A t.length c] 24)).heap.size by simp]
      exact (Blk.new _ _ _).alloc _
    · rw [hW0, digs_zero, natsI_zero, show w.heap.size + 1 + 1 = ((w.alloc (.cells #[.slice A t.length c] 24)).alloc (.cells (intsV (List.replicate l.length 0)).toArray 3)).heap.size by simp]
      exact Blk.new _ _ _
    · rw [hW0]; exact ((hxd.alloc _).alloc _).alloc _
    · have hb : Ex w W0 := by rw [hW0]; exact (((Ex.refl w).alloc _).alloc _).alloc _
      exact hJs _ _ _ (by simpa [visL] using hJ0) hb.below
  have hmk1 := fun W => mk_ints l.length (l.length : Int) rfl (by omega) W
  have HW0 := Lib.hid hW0
  clear hW0 hT hs hL hls hcp hJ0 hJs hJf hv hne hxd
  generalize hn0 : w.heap.size = n0 at *
  go_enter Try.func18, Try.ntmps18
  go_wp2_with fail
  clear hmk1
  rw [← HW0.out]
  have HGs : Hid (∀ vs X Y, J vs X → Below n0 X Y → J vs Y) := HJs
  go_loopg [17] (totL l) (fun gg _ wr => ∃ (k : Nat) (cs : List Int), k < totL l ∧ totL l - k ≤ gg ∧ cs.length = l.length ∧ Hid (LnF t A c n0 wd cs (digs l k) (J (visL t l k)) wr))
  case atStart => exact ⟨0, _, htp, Nat.le_refl _, by simp, HF0⟩
  case round =>
    clear HF0
    obtain ⟨k, cs, hk, hgg, hcl, HH⟩ := hrel
    have HCl := Lib.hid hcl
    have HPk := Lib.hid (prod_get l k hk)
    have HDl := Lib.hid (digs_len l k)
    have HDlt := Lib.hid (digs_lt l k HNe.out)
    have HPl := Lib.hid (pick_len l (digs l k) (digs_len l k))
    have HPg := Lib.hid (fun (p : Nat) (r : List Int) (d : Nat) (h1 : l[p]? = some r) (h2 : (digs l k)[p]? = some d) => pick_get l (digs l k) p r d h1 h2)
    clear hcl
    go_wp2_with fail
    go_loopw [18] (fun q w3 => ∃ (p : Nat) (c2 : List Int), q = .int .i64 p ∧ p ≤ l.length ∧ Hid (c2.length = l.length ∧ (∀ (p' : Nat) (a : Int), p' < p → (pick l (digs l k))[p']? = some a → c2[p']? = some a) ∧ LnF t A c n0 wd c2 (digs l k) (J (visL t l k)) w3)) (fun q _ => l.length - (intOf q).toNat)
    case atStart => exact ⟨0, cs, rfl, Nat.zero_le _, Lib.hid ⟨HCl.out, fun p' a h => absurd h (Nat.not_lt_zero _), HH.out⟩⟩
    case round =>
      clear HH HCl
      obtain ⟨p, c2, rfl, hp, HJ2⟩ := hrel
      by_cases hpl : p < l.length
      · have m0 : (0 : Int) ≤ (p : Int) := by omega
        have m1 : (p : Int) < (l.length : Int) := by omega
        obtain ⟨r, hr⟩ := get_at hpl
        obtain ⟨d, hd⟩ := get_at (show p < (digs l k).length by rw [HDl.out]; exact hpl)
        have hdr := HDlt.out p r d hr hd
        obtain ⟨a, ha⟩ := get_at hdr
        have hga := HPg.out p r d hr hd
        rw [List.getD_eq_getElem?_getD, ha] at hga
        have HGa : Hid ((pick l (digs l k))[p]? = some a) := hga
        obtain ⟨c0, hc0⟩ := get_at (show p < c2.length by rw [HJ2.out.1]; exact hpl)
        obtain ⟨bb, oo, hBB, hbb, A7, c7, r0d, hc7, hrow⟩ := HL.out _ (Ex.refl wd) p r hr
        subst hBB
        obtain ⟨br, or_, hA7, hbr, hcr⟩ := row_at hrow (fun h => by rw [h] at hdr; exact absurd hdr (Nat.not_lt_zero _))
        subst hA7
        have r0 := (HJ2.out.2.2.ex.below.cell (p := ⟨bb, oo + p, none⟩) hbb).trans r0d
        have k0 := (HJ2.out.2.2.ex.below.cell (p := ⟨br, or_ + d, none⟩) hbr).trans (hcr d a ha)
        have i1 : bb ≠ n0 + 1 := by omega
        have i2 : n0 + 1 ≠ bb := by omega
        have i3 : br ≠ n0 + 1 := by omega
        have i4 : n0 + 1 ≠ br := by omega
        have i5 : n0 + 1 + 1 ≠ n0 + 1 := by omega
        have i6 : n0 + 1 ≠ n0 + 1 + 1 := by omega
        have k1 := (HJ2.out.2.2.at_.cell p).trans (natsI_get hd)
        have kl := HJ2.out.2.2.at_.lt
        have k2 := (HJ2.out.2.2.cut.cell p).trans (intsV_get hc0)
        have k2l := HJ2.out.2.2.cut.lt
        have k2f := HJ2.out.2.2.cut.frozen p
        have m2 : (0 : Int) ≤ (d : Int) := by omega
        have m3 : (d : Int) < (r.length : Int) := by omega
        have HN : Hid ((c2.set p a).length = l.length ∧ ∀ (p' : Nat) (b : Int), p' < p + 1 → (pick l (digs l k))[p']? = some b → (c2.set p a)[p']? = some b) := by
          refine ⟨by rw [List.length_set]; exact HJ2.out.1, fun p' b h h' => ?_⟩
          rw [List.getElem?_set]
          by_cases he : p = p'
          · subst he
            rw [if_pos rfl, if_pos (by rw [HJ2.out.1]; exact hpl)]
            rw [HGa.out] at h'
            exact h'
          · rw [if_neg he]
            exact HJ2.out.2.1 p' b (by omega) h'
        have HSt := Lib.hid (HJ2.out.2.2.setC (HJs.out _) hwd p a)
        clear hr hd hga ha hc0 hcr hrow r0d hbb hbr
        go_wp2_with fail
        go_region_held3 (fun (w' : World) => w'.cell? ⟨bb, oo + p, none⟩ = some (.slice (some ⟨br, or_, none⟩) r.length c7) ∧ w'.cell? ⟨n0 + 1 + 1, p, none⟩ = some (.int .i64 (d : Nat)) ∧ w'.cell? ⟨br, or_ + d, none⟩ = some (.int .i64 a))
          (first | exact ⟨r0, k1, k0⟩ | go_keep)
          (first | fail)
        go_wp2_with fail
        refine ⟨⟨p + 1, c2.set p a, by go_num, by omega, Lib.hid ⟨HN.out.1, HN.out.2, ?_⟩⟩, by simp [intOf]; omega⟩
        exact HSt.out.exk (HJs.out _) (Ex.refl _).drew
      · obtain rfl : p = l.length := by omega
        have s1 : decide ((l.length : Int) < (l.length : Int)) = false := decide_eq_false (by omega)
        have hc2 : c2 = pick l (digs l k) := by
          refine list_allR (by rw [HJ2.out.1, HPl.out]) fun i a b ha hb => ?_
          have hi : i < l.length := by have := (List.getElem?_eq_some_iff.1 ha).1; rw [HJ2.out.1] at this; exact this
          have := HJ2.out.2.1 i b hi hb
          rw [ha] at this
          exact Option.some.inj this
        have HF := Lib.hid HJ2.out.2.2
        rw [hc2] at HF
        have HLn := Lib.hid (HLine.out k _ HPk.out)
        have HVs := Lib.hid (vis_step (t := t) HPk.out)
        clear HJ2 hc2 HPg HPk
        generalize pick l (digs l k) = cv at *
        have x0 := HF.out.box.cell 0
        have xl := HF.out.box.lt
        have HC := Lib.hid (HCn.out cv (some ⟨n0 + 1, 0, none⟩) l.length _ HF.out.ex (.inr ⟨n0 + 1, 0, rfl, HF.out.cut.lt, fun j u hj => by rw [Nat.zero_add]; exact (HF.out.cut.cell j).trans hj⟩))
        rw [HPl.out] at HC
        cases hcb : conB t cv with
        | false =>
          rw [hcb] at HC HVs
          clear hcb
          go_wp2_with fail
          refine (HC.out).mono ?_
          rintro e9 w5 ⟨rfl, z, rfl⟩
          have HF6 : Hid (LnF t A c n0 wd cv (digs l k) (J (visL t l (k + 1))) (ext wr z)) := by
            have h := HF.out.exk (HJs.out _) ((Ex.refl _).ext z)
            rw [HVs.out]
            refine Lib.hid ?_
            simpa using h
          have HF5 := HF6
          clear HF6 HVs HLn HF HC x0 xl
          go_wp2_with fail
          go_loopw [9] (fun q w3 => ∃ p : Nat, q = .int .i64 p ∧ p ≤ l.length ∧ Hid (Full l (digs l k) p ∧ LnF t A c n0 wd cv (carr p (digs l k)) (J (visL t l (k + 1))) w3)) (fun q _ => l.length - (intOf q).toNat)
          case atStart => exact ⟨0, rfl, Nat.zero_le _, Lib.hid ⟨fun p r d h => absurd h (Nat.not_lt_zero _), by rw [carr_zero]; exact HF5.out⟩⟩
          case round =>
            clear HF5
            obtain ⟨p, rfl, hp, HJ3⟩ := hrel
            by_cases hpl : p < l.length
            · have m0 : (0 : Int) ≤ (p : Int) := by omega
              have m1 : (p : Int) < (l.length : Int) := by omega
              obtain ⟨r, hr⟩ := get_at hpl
              obtain ⟨d, hd⟩ := get_at (show p < (digs l k).length by rw [HDl.out]; exact hpl)
              have hdr := HDlt.out p r d hr hd
              have hrl := HRl.out p r hr
              obtain ⟨bb, oo, hBB, hbb, A7, c7, r0d, hc7, -⟩ := HL.out _ (Ex.refl wd) p r hr
              subst hBB
              have r0 := (HJ3.out.2.ex.below.cell (p := ⟨bb, oo + p, none⟩) hbb).trans r0d
              have k1 := (HJ3.out.2.at_.cell p).trans (natsI_get ((carr_get (Nat.le_refl p) (by rw [HDl.out]; exact hp)).trans hd))
              have k2l := HJ3.out.2.at_.lt
              have k2f := HJ3.out.2.at_.frozen p
              have hw1 : IntKind.i64.wrap ((r.length : Int) - 1) = (r.length : Int) - 1 := IntWalk.i64_in _ (by omega)
              have hw2 : IntKind.i64.wrap ((d : Int) + 1) = (d : Int) + 1 := IntWalk.i64_in _ (by omega)
              by_cases hfull : d + 1 = r.length
              · have g1 : (((d : Int)) == ((r.length : Int) - 1)) = true := beq_iff_eq.2 (by omega)
                have g1' : ((d : Int) = (r.length : Int) - 1) = True := eq_true (by omega)
                have HSt : Hid (Full l (digs l k) (p + 1) ∧ ∀ nq, LnF t A c n0 wd cv (carr (p + 1) (digs l k)) (J (visL t l (k + 1))) ((wr.drewN nq).setCell ⟨n0 + 1 + 1, p, none⟩ (.int .i64 0))) := by
                  refine ⟨fun p' r' d' h1 h2 h3 => ?_, ?_⟩
                  · by_cases he : p' = p
                    · subst he
                      rw [hr] at h2
                      rw [hd] at h3
                      cases h2
                      cases h3
                      exact hfull
                    · exact HJ3.out.1 p' r' d' (by omega) h2 h3
                  · rw [← carr_set (by rw [HDl.out]; exact hpl)]
                    exact fun nq => (HJ3.out.2.exk (HJs.out _) ((Ex.refl _).drewN nq)).setA (HJs.out _) hwd p 0
                clear hr hd r0d hbb hfull
                go_wp2_with fail
                go_quiet (fail)
                go_wp2_with fail
                refine ⟨⟨p + 1, by go_num, by omega, Lib.hid ⟨HSt.out.1, ?_⟩⟩, by simp [intOf]; omega⟩
                exact HSt.out.2 _
              · have g1 : (((d : Int)) == ((r.length : Int) - 1)) = false := beq_eq_false_iff_ne.2 (by omega)
                have g1' : ((d : Int) = (r.length : Int) - 1) = False := eq_false (by omega)
                have g2 : ((p : Int) == (l.length : Int)) = false := beq_eq_false_iff_ne.2 (by omega)
                have g2' : ((p : Int) = (l.length : Int)) = False := eq_false (by omega)
                have HSt : Hid (∀ nq, LnF t A c n0 wd cv (digs l (k + 1)) (J (visL t l (k + 1))) ((wr.drewN nq).setCell ⟨n0 + 1 + 1, p, none⟩ (.int .i64 ((d : Int) + 1)))) := by
                  intro nq
                  have h := (HJ3.out.2.exk (HJs.out _) ((Ex.refl _).drewN nq)).setA (HJs.out _) hwd p (d + 1)
                  rw [← digs_next l k p r d HNe.out HJ3.out.1 hr hd (by omega)] at h
                  exact h
                have hk1 : k + 1 < totL l := digs_more l k p r d HNe.out hk hr hd (by omega)
                clear hr hd r0d hbb hfull
                go_wp2_with fail
                go_quiet (fail)
                go_wp2_with fail
                go_roundg (totL l - (k + 1))
                case measure => omega
                exact ⟨k + 1, cv, hk1, Nat.le_refl _, HPl.out, Lib.hid (HSt.out _)⟩
            · obtain rfl : p = l.length := by omega
              have s1 : decide ((l.length : Int) < (l.length : Int)) = false := decide_eq_false (by omega)
              have hk1 := digs_end l k HNe.out hk HJ3.out.1
              have HV : Hid (∀ nq, J ((prodL l).filter (conB t)) (wr.drewN nq) ∧ Ex wd (wr.drewN nq) ∧ n0 ≤ (wr.drewN nq).heap.size) := by
                intro nq
                have HJ4 := HJ3.out.2.exk (HJs.out _) ((Ex.refl _).drewN nq)
                refine ⟨?_, HJ4.ex, Nat.le_of_lt HJ4.box.lt⟩
                have h := HJ4.got
                unfold visL at h
                rw [List.take_of_length_le (by rw [prod_len]; omega)] at h
                exact h
              clear hk1 HJ3
              go_wp2_with fail
              go_quiet (fail)
              go_wp2_with fail
              refine bodyPost_ret (results_none rfl _ _ _) rfl ?_
              exact ⟨rfl, HV.out _⟩
        | true =>
          rw [hcb] at HC HVs
          have HLn2 := Lib.hid (HLn.out hcb)
          clear hcb
          go_wp2_with fail
          refine (HC.out).mono ?_
          rintro e9 w5 ⟨rfl, z, rfl⟩
          have HF4 := Lib.hid (HF.out.exk (HJs.out _) ((Ex.refl _).ext z))
          have HCall := Lib.hid (HJf.out _ cv (some ⟨n0 + 1, 0, none⟩) l.length _ HF4.out.got HF4.out.ex (.inr ⟨n0 + 1, 0, rfl, HF4.out.cut.lt, fun j u hj => by rw [Nat.zero_add]; exact (HF4.out.cut.cell j).trans hj⟩) HLn2.out.1 HLn2.out.2 (Nat.lt_of_le_of_lt (vis_len t l k) hk))
          go_wp2_with fail
          go_at_fn N
          refine (HCall.out).mono ?_
          rintro e9 w6 ⟨rfl, hJ6, hK6⟩
          have HF6 : Hid (LnF t A c n0 wd cv (digs l k) (J (visL t l (k + 1))) w6) := by
            refine ⟨hK6.blk _ (Nat.le_refl _) HF4.out.box.lt |>.trans HF4.out.box, hK6.get (by omega) HF4.out.cut, hK6.get (by omega) HF4.out.at_, hK6.ex HF4.out.ex, ?_⟩
            rw [HVs.out]
            simpa using hJ6
          clear hJ6 hK6 HF4 HLn2 HCall
          have HF5 := HF6
          clear HF6 HVs HLn HF HC x0 xl
          go_wp2_with fail
          go_loopw [9] (fun q w3 => ∃ p : Nat, q = .int .i64 p ∧ p ≤ l.length ∧ Hid (Full l (digs l k) p ∧ LnF t A c n0 wd cv (carr p (digs l k)) (J (visL t l (k + 1))) w3)) (fun q _ => l.length - (intOf q).toNat)
          case atStart => exact ⟨0, rfl, Nat.zero_le _, Lib.hid ⟨fun p r d h => absurd h (Nat.not_lt_zero _), by rw [carr_zero]; exact HF5.out⟩⟩
          case round =>
            clear HF5
            obtain ⟨p, rfl, hp, HJ3⟩ := hrel
            by_cases hpl : p < l.length
            · have m0 : (0 : Int) ≤ (p : Int) := by omega
              have m1 : (p : Int) < (l.length : Int) := by omega
              obtain ⟨r, hr⟩ := get_at hpl
              obtain ⟨d, hd⟩ := get_at (show p < (digs l k).length by rw [HDl.out]; exact hpl)
              have hdr := HDlt.out p r d hr hd
              have hrl := HRl.out p r hr
              obtain ⟨bb, oo, hBB, hbb, A7, c7, r0d, hc7, -⟩ := HL.out _ (Ex.refl wd) p r hr
              subst hBB
              have r0 := (HJ3.out.2.ex.below.cell (p := ⟨bb, oo + p, none⟩) hbb).trans r0d
              have k1 := (HJ3.out.2.at_.cell p).trans (natsI_get ((carr_get (Nat.le_refl p) (by rw [HDl.out]; exact hp)).trans hd))
              have k2l := HJ3.out.2.at_.lt
              have k2f := HJ3.out.2.at_.frozen p
              have hw1 : IntKind.i64.wrap ((r.length : Int) - 1) = (r.length : Int) - 1 := IntWalk.i64_in _ (by omega)
              have hw2 : IntKind.i64.wrap ((d : Int) + 1) = (d : Int) + 1 := IntWalk.i64_in _ (by omega)
              by_cases hfull : d + 1 = r.length
              · have g1 : (((d : Int)) == ((r.length : Int) - 1)) = true := beq_iff_eq.2 (by omega)
                have g1' : ((d : Int) = (r.length : Int) - 1) = True := eq_true (by omega)
                have HSt : Hid (Full l (digs l k) (p + 1) ∧ ∀ nq, LnF t A c n0 wd cv (carr (p + 1) (digs l k)) (J (visL t l (k + 1))) ((wr.drewN nq).setCell ⟨n0 + 1 + 1, p, none⟩ (.int .i64 0))) := by
                  refine ⟨fun p' r' d' h1 h2 h3 => ?_, ?_⟩
                  · by_cases he : p' = p
                    · subst he
                      rw [hr] at h2
                      rw [hd] at h3
                      cases h2
                      cases h3
                      exact hfull
                    · exact HJ3.out.1 p' r' d' (by omega) h2 h3
                  · rw [← carr_set (by rw [HDl.out]; exact hpl)]
                    exact fun nq => (HJ3.out.2.exk (HJs.out _) ((Ex.refl _).drewN nq)).setA (HJs.out _) hwd p 0
                clear hr hd r0d hbb hfull
                go_wp2_with fail
                go_quiet (fail)
                go_wp2_with fail
                refine ⟨⟨p + 1, by go_num, by omega, Lib.hid ⟨HSt.out.1, ?_⟩⟩, by simp [intOf]; omega⟩
                exact HSt.out.2 _
              · have g1 : (((d : Int)) == ((r.length : Int) - 1)) = false := beq_eq_false_iff_ne.2 (by omega)
                have g1' : ((d : Int) = (r.length : Int) - 1) = False := eq_false (by omega)
                have g2 : ((p : Int) == (l.length : Int)) = false := beq_eq_false_iff_ne.2 (by omega)
                have g2' : ((p : Int) = (l.length : Int)) = False := eq_false (by omega)
                have HSt : Hid (∀ nq, LnF t A c n0 wd cv (digs l (k + 1)) (J (visL t l (k + 1))) ((wr.drewN nq).setCell ⟨n0 + 1 + 1, p, none⟩ (.int .i64 ((d : Int) + 1)))) := by
                  intro nq
                  have h := (HJ3.out.2.exk (HJs.out _) ((Ex.refl _).drewN nq)).setA (HJs.out _) hwd p (d + 1)
                  rw [← digs_next l k p r d HNe.out HJ3.out.1 hr hd (by omega)] at h
                  exact h
                have hk1 : k + 1 < totL l := digs_more l k p r d HNe.out hk hr hd (by omega)
                clear hr hd r0d hbb hfull
                go_wp2_with fail
                go_quiet (fail)
                go_wp2_with fail
                go_roundg (totL l - (k + 1))
                case measure => omega
                exact ⟨k + 1, cv, hk1, Nat.le_refl _, HPl.out, Lib.hid (HSt.out _)⟩
            · obtain rfl : p = l.length := by omega
              have s1 : decide ((l.length : Int) < (l.length : Int)) = false := decide_eq_false (by omega)
              have hk1 := digs_end l k HNe.out hk HJ3.out.1
              have HV : Hid (∀ nq, J ((prodL l).filter (conB t)) (wr.drewN nq) ∧ Ex wd (wr.drewN nq) ∧ n0 ≤ (wr.drewN nq).heap.size) := by
                intro nq
                have HJ4 := HJ3.out.2.exk (HJs.out _) ((Ex.refl _).drewN nq)
                refine ⟨?_, HJ4.ex, Nat.le_of_lt HJ4.box.lt⟩
                have h := HJ4.got
                unfold visL at h
                rw [List.take_of_length_le (by rw [prod_len]; omega)] at h
                exact h
              clear hk1 HJ3
              go_wp2_with fail
              go_quiet (fail)
              go_wp2_with fail
              refine bodyPost_ret (results_none rfl _ _ _) rfl ?_
              exact ⟨rfl, HV.out _⟩
end Go.Proofs.Ytdenojfbdkdpiaa
