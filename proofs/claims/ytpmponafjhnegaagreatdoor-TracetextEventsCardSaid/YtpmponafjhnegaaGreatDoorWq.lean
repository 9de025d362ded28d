/-
  Line, walked. ParseName, walked. ParseEvent, walked.
  Conditions: as each theorem says.
-/
import Derived.Test.YtpmponafjhnegaaGreatDoorWc
import Derived.Test.YtpmponafjhnegaaGreatDoorMh
import Derived.Test.YtpmponafjhnegaaGreatDoorWb
import Derived.Test.YtpmponafjhnegaaGreatDoorWs
import Derived.Test.YtpmponafjhnegaaGreatDoorMj
namespace Go.Proofs.YtpmponafjhnegaaGreatDoor
section
open Go.RowKit Nu
def lnOf (t : List Pr) (p i : Int) : List UInt8 := ((t[p.toNat]?).bind fun x => (x.evs[i.toNat - 1]?).map (wEv t x.vars)).getD []
noncomputable def lineV (t : List Pr) (p i : Int) : Value := if checkE t p i = 0 then .tuple #[.string (bs (lnOf t p i)), .int .i64 0] else .tuple #[.string ⟨#[]⟩, .int .i64 (checkE t p i)]
set_option maxRecDepth 100000 in
set_option maxHeartbeats 3200000 in
theorem line2_c (t : List Pr) (A : Option Addr) (c : Nat) (p i : Int) (w : World) (hE : Env w) (hT : TcC w A t) (hs : TSm t) (hcap : t.length ≤ c) :
    Calls Tryz.prog 15 #[.agg #[.slice A t.length c], .agg #[.int .i64 p, .int .i64 i]] w (Ret w (lineV t p i)) := by
  have HE : Hid (∀ w', Ex w w' → Env w') := fun w' h => hE.ex h
  have HT := Lib.hid hT
  have htl := hs.procs
  have HC := Lib.hid (fun w' (h : Ex w w') => check_c t A c p i w' (hT.ex h) hs hcap)
  have HSm := Lib.hid hs
  obtain ⟨W1, hW1⟩ : ∃ W1, W1 = (w.alloc (.cells #[.slice A t.length c] 24)).alloc (.cells #[.int .i64 p, .int .i64 i] 40) := ⟨_, rfl⟩
  have hX1 : Ex w W1 := by rw [hW1]; exact ((Ex.refl w).alloc _).alloc _
  have hz1 : ∀ o : Obj, (w.alloc o).heap.size = w.heap.size + 1 := fun o => Array.size_push _
  have hB1 : Blk W1 w.heap.size 24 [.slice A t.length c] := by rw [hW1]; exact (Blk.new w _ _).alloc _
  have hB2 : Blk W1 (w.heap.size + 1) 40 [.int .i64 p, .int .i64 i] := by rw [hW1, ← hz1]; exact Blk.new _ _ _
  have HW1 := Lib.hid hW1
  have HX1 := Lib.hid hX1
  have HB1 := Lib.hid hB1
  have HB2 := Lib.hid hB2
  have x0 := hB1.cell 0
  have x1 := hB2.cell 0
  have x2 := hB2.cell 1
  have xl := hB1.lt
  have xk := hB2.lt
  have HR0 : Hid (checkE t p i = 0 → lineV t p i = .tuple #[.string (bs (lnOf t p i)), .int .i64 0]) := fun h => by unfold lineV; rw [if_pos h]
  have HR1 : Hid (checkE t p i ≠ 0 → lineV t p i = .tuple #[.string ⟨#[]⟩, .int .i64 (checkE t p i)]) := fun h => by unfold lineV; rw [if_neg h]
  generalize lineV t p i = R at *
  clear hE hT hs hcap hW1 hX1 hB1 hB2 hz1
  by_cases hc : checkE t p i = 0
  · obtain ⟨hv, q, x, rfl, hx, h1, h2⟩ := check_ok hc
    obtain ⟨j, rfl⟩ : ∃ j : Nat, i = (j : Int) + 1 := ⟨i.toNat - 1, by omega⟩
    obtain ⟨e, he⟩ : ∃ e, x.evs[j]? = some e := ⟨_, List.getElem?_eq_getElem (by omega)⟩
    have hf : (faultO t).2 = 0 := by unfold validB at hv; exact of_decide_eq_true hv
    rw [hc] at HC
    have hR := HR0.out hc
    have hS : lnOf t (q : Int) ((j : Int) + 1) = wEv t x.vars e := by
      have e1 : ((j : Int) + 1).toNat - 1 = j := by omega
      unfold lnOf
      rw [Int.toNat_natCast, hx, e1]
      show ((x.evs[j]?).map (wEv t x.vars)).getD [] = _
      rw [he]
      rfl
    rw [hS] at hR
    subst hR
    have HLn := Lib.hid (fun w' (h : Ex w w') => line_c t A c q j x e w' (HE.out w' h) (HT.out.ex h) HSm.out hx he hf)
    clear hc hx he hv hf hS HR0 HR1 h1 h2
    go_enter Tryz.func15, Tryz.ntmps15
    go_upto_region 1 with fail
    rw [← HW1.out]
    go_wp2_with fail
    refine (HC.out _ HX1.out).mono ?_
    rintro e9 w2 ⟨rfl, hx⟩
    have HX2 := Lib.hid (HX1.out.trans hx)
    have y0 := (HB1.out.ex hx).cell 0
    have y1 := (HB2.out.ex hx).cell 0
    have y2 := (HB2.out.ex hx).cell 1
    have yl := (HB1.out.ex hx).lt
    have yk := (HB2.out.ex hx).lt
    clear hx x0 x1 x2 xl xk
    go_wp2_with fail
    refine (HLn.out _ HX2.out).mono ?_
    rintro e9 w3 ⟨rfl, hx⟩
    have HX3 := Lib.hid (HX2.out.trans hx)
    clear hx
    go_wp2_with fail
    go_ret2
    exact Ret.mk rfl HX3.out
  · have hR := HR1.out hc
    subst hR
    have c0 : (checkE t p i != 0) = true := bne_iff_ne.2 hc
    have c1 : (checkE t p i == 0) = false := beq_eq_false_iff_ne.2 hc
    generalize checkE t p i = ce at *
    clear hc HR0 HR1
    go_enter Tryz.func15, Tryz.ntmps15
    go_upto_region 1 with fail
    rw [← HW1.out]
    go_wp2_with fail
    refine (HC.out _ HX1.out).mono ?_
    rintro e9 w2 ⟨rfl, hx⟩
    have HX2 := Lib.hid (HX1.out.trans hx)
    clear hx x0 x1 x2 xl xk
    go_wp2_with fail
    go_ret2
    exact Ret.mk rfl HX2.out
end
section
open Go.RowKit Nu
/-- the event with a name: process, number, error -/
def pnO (t : List Pr) (s : List UInt8) : Int × Int × Int :=
  if (cutG 46 s).2.2 = false ∨ nameB (bs (cutG 46 s).1) = false ∨ parE (cutG 46 s).2.1 = 3 ∨ Lib.hasPrefix (cutG 46 s).2.1 [45] = true then (0, 0, 3)
  else match pIdx (bs (cutG 46 s).1) (t.map (·.name)) with
    | none => (0, 0, 13)
    | some q => if parE (cutG 46 s).2.1 ≠ 0 ∨ parV (cutG 46 s).2.1 < 1 ∨ (evN t q : Int) < parV (cutG 46 s).2.1 then (0, 0, 2) else ((q : Int), parV (cutG 46 s).2.1, 0)
noncomputable def pnV (t : List Pr) (s : List UInt8) : Int × Int × Int := if validB t = true then pnO t s else (0, 0, 1)
def pnW (x : Int × Int × Int) : Value := .tuple #[.agg #[.int .i64 x.1, .int .i64 x.2.1], .int .i64 x.2.2]
theorem results_pn {fn : Func} {p s g : Nat} {a b e : Value} {w : World} {tmps : Array Value} (hr : fn.results = #[.cell p 40, .tmp s]) (hp : tmps.getD p undef = .pointer (some ⟨g, 0, none⟩)) (hs : tmps.getD s undef = e) (hB : Blk w g 40 [a, b]) :
    (results fn tmps).run Tryz.prog w = .ok (.tuple #[.agg #[a, b], e]) w := by
  have h0 : w.cell? ⟨g, 0, none⟩ = some a := hB.cell 0
  have h1 : w.cell? ⟨g, 1, none⟩ = some b := hB.cell 1
  rw [Array.getD_eq_getD_getElem?] at hp hs
  simp [results, hr, hp, hs, go_sem, h0, h1]
theorem pnEnd {W w1 : World} {g : Nat} {x : Int × Int × Int} {tmps : Array Value} {a b : Value} (hx : Ex W w1) (hg : W.heap.size ≤ g) (hB : Blk w1 g 40 [a, b]) (hp : tmps.getD 4 undef = .pointer (some ⟨g, 0, none⟩)) (hs : tmps.getD 5 undef = .int .i64 x.2.2) :
    bodyPost Tryz.prog Tryz.f18 (Ret W (pnW x)) .ret ⟨tmps, []⟩ ((w1.setCell ⟨g, 0, none⟩ (.int .i64 x.1)).setCell ⟨g, 1, none⟩ (.int .i64 x.2.1)) := by
  have b1 := (hB.set_ 0 (.int .i64 x.1)).set_ 1 (.int .i64 x.2.1)
  have hX := (hx.setCell (p := ⟨g, 0, none⟩) hg (.int .i64 x.1)).setCell (p := ⟨g, 1, none⟩) hg (.int .i64 x.2.1)
  exact bodyPost_ret (results_pn rfl hp hs b1) rfl (Ret.mk rfl hX)
theorem prefix_c (l : List UInt8) (w : World) : Calls Tryz.prog 51 #[.string (bs l), .string ⟨#[45]⟩] w (Ret w (.bool (Lib.hasPrefix l [45]))) := by
  refine (Tryz.strings_HasPrefix (bs l) ⟨#[45]⟩ w).mono ?_
  rintro e w' ⟨rfl, rfl⟩
  exact ⟨rfl, Ex.refl _⟩
theorem cutG_len2 (c : UInt8) (l : List UInt8) : (cutG c l).1.length ≤ l.length ∧ (cutG c l).2.1.length ≤ l.length := by
  unfold cutG
  cases h : cutC c l with
  | none => exact ⟨Nat.le_refl _, Nat.zero_le _⟩
  | some x =>
    obtain ⟨a, b⟩ := x
    obtain ⟨e, -⟩ := cutC_some h
    have : l.length = a.length + (b.length + 1) := by rw [e]; simp
    dsimp only
    omega
set_option maxRecDepth 100000 in
set_option maxHeartbeats 6400000 in
theorem pname_c (t : List Pr) (A : Option Addr) (c : Nat) (l : List UInt8) (w : World) (hE : Env w) (hT : TcC w A t) (hs : TSm t) (hcap : t.length ≤ c) (hl : l.length ≤ 10000) :
    Calls Tryz.prog 18 #[.agg #[.slice A t.length c], .string (bs l)] w (Ret w (pnW (pnV t l))) := by
  have HE : Hid (∀ w', Ex w w' → Env w') := fun w' h => hE.ex h
  have HT := Lib.hid hT
  have htl := hs.procs
  have HV := Lib.hid (fun w' (h : Ex w w') => pValid_c t A c w' (hT.ex h) hs hcap)
  have HSm := Lib.hid hs
  have hsl : (bs l).size = l.length := rfl
  obtain ⟨W1, hW1⟩ : ∃ W1, W1 = (w.alloc (.cells #[.slice A t.length c] 24)).alloc (.cells #[.int .i64 0, .int .i64 0] 40) := ⟨_, rfl⟩
  have hX1 : Ex w W1 := by rw [hW1]; exact ((Ex.refl w).alloc _).alloc _
  have hz1 : ∀ o : Obj, (w.alloc o).heap.size = w.heap.size + 1 := fun o => Array.size_push _
  have hB1 : Blk W1 w.heap.size 24 [.slice A t.length c] := by rw [hW1]; exact (Blk.new w _ _).alloc _
  have hB2 : Blk W1 (w.heap.size + 1) 40 [.int .i64 0, .int .i64 0] := by rw [hW1, ← hz1]; exact Blk.new _ _ _
  have HW1 := Lib.hid hW1
  have HX1 := Lib.hid hX1
  have HB1 := Lib.hid hB1
  have HB2 := Lib.hid hB2
  have x0 := hB1.cell 0
  have xl := hB1.lt
  have HR0 : Hid (validB t = false → pnV t l = (0, 0, 1)) := fun h => by unfold pnV; rw [if_neg (by rw [h]; decide)]
  have HR1 : Hid (validB t = true → pnV t l = pnO t l) := fun h => by unfold pnV; rw [if_pos h]
  generalize pnV t l = R at *
  have HFi : Hid (∀ w' n, Ex w w' → Calls Tryz.prog 47 #[.agg #[.slice A t.length c], .string n] w' (Ret w' (.int .i64 (idxV (pIdx n (t.map (·.name))))))) := fun w' n h => find_c t A c n w' (hT.ex h) htl
  clear hE hT hs hcap hW1 hX1 hB1 hB2 hz1
  go_enter Tryz.func18, Tryz.ntmps18
  go_upto_region 1 with fail
  rw [← HW1.out]
  go_wp2_with fail
  refine (HV.out _ HX1.out).mono ?_
  rintro e9 w2 ⟨rfl, hx⟩
  have HX2 := Lib.hid (HX1.out.trans hx)
  have HC1 := Lib.hid (HB1.out.ex hx)
  have HC2 := Lib.hid (HB2.out.ex hx)
  clear hx x0 xl HV HB1 HB2 HW1 HX1
  cases hv : validB t with
  | false =>
    have hR := HR0.out hv
    subst hR
    have f0 := HC2.out.frozen 0
    have f1 := HC2.out.frozen 1
    have z0 := HC2.out.cell 0
    have z1 := HC2.out.cell 1
    have zl := HC2.out.lt
    clear hv HR0 HR1
    go_wp2_with fail
    exact pnEnd (x := (0, 0, 1)) HX2.out (by omega) HC2.out rfl rfl
  | true =>
    have HR := Lib.hid (HR1.out hv)
    clear hv HR0 HR1
    have HCu := Lib.hid (fun w' (h : Ex w w') => cut_c 46 l w' (HE.out w' h) (by omega))
    have hcl := cutG_len2 46 l
    have hO : pnO t l = _ := rfl
    unfold pnO at hO
    have HO := Lib.hid (HR.out.trans hO)
    clear hO HR
    generalize cutG 46 l = CU at *
    obtain ⟨a, b, ok⟩ := CU
    dsimp only at *
    have HNa := Lib.hid (fun w' => tName_c (bs a) w' (by show a.length ≤ _; unfold maxLen; omega))
    have HDe := Lib.hid (fun w' (h : Ex w w') => decimal_c (bs b) w' (HE.out w' h) (by show b.length ≤ _; omega))
    have HPf := Lib.hid (fun w' => prefix_c b w')
    have hbb : (bs b).data.toList = b := rfl
    rw [hbb] at HDe
    have HFn := Lib.hid (fun w' (h : Ex w w') => HFi.out w' (bs a) h)
    have HIx : Hid (∀ q, pIdx (bs a) (t.map (·.name)) = some q → q < t.length) := fun q h => by
      have h1 := (List.getElem?_eq_some_iff.1 (pIdx_some h)).1
      rwa [List.length_map] at h1
    generalize pIdx (bs a) (t.map (·.name)) = FI at *
    generalize nameB (bs a) = nb at *
    generalize Lib.hasPrefix b [45] = hp at *
    generalize parE b = pe at *
    generalize parV b = pv at *
    clear hbb HFi hcl
    unfold Two at HDe
    go_wp2_with fail
    refine (HCu.out _ HX2.out).mono ?_
    rintro e9 w3 ⟨rfl, hx⟩
    have HX3 := Lib.hid (HX2.out.trans hx)
    have HY3 := Lib.hid hx
    clear hx HCu
    go_wp2_with fail
    refine (HDe.out _ HX3.out).mono ?_
    rintro e9 w4 ⟨rfl, hx⟩
    have HX4 := Lib.hid (HX3.out.trans hx)
    have HY4 := Lib.hid (HY3.out.trans hx)
    clear hx HDe HY3 HX3
    cases ok with
    | false =>
      have hR : R = (0, 0, 3) := by rw [HO.out, if_pos (.inl rfl)]
      subst hR
      have hB := HC2.out.ex HY4.out
      have HB := Lib.hid hB
      have f0 := hB.frozen 0
      have f1 := hB.frozen 1
      have z0 := hB.cell 0
      have z1 := hB.cell 1
      have zl := hB.lt
      clear hB HO
      go_wp2_with fail
      exact pnEnd (x := (0, 0, 3)) HX4.out (by omega) HB.out rfl rfl
    | true =>
      go_wp2_with fail
      refine (HNa.out _).mono ?_
      rintro e9 w5 ⟨rfl, hx⟩
      have HX5 := Lib.hid (HX4.out.trans hx)
      have HY5 := Lib.hid (HY4.out.trans hx)
      clear hx HNa
      cases nb with
      | false =>
        have hR : R = (0, 0, 3) := by rw [HO.out, if_pos (.inr (.inl rfl))]
        subst hR
        have hB := HC2.out.ex HY5.out
        have HB := Lib.hid hB
        have f0 := hB.frozen 0
        have f1 := hB.frozen 1
        have z0 := hB.cell 0
        have z1 := hB.cell 1
        have zl := hB.lt
        clear hB HO
        go_wp2_with fail
        exact pnEnd (x := (0, 0, 3)) HX5.out (by omega) HB.out rfl rfl
      | true =>
        by_cases h3 : pe = 3
        · have hR : R = (0, 0, 3) := by rw [HO.out, if_pos (.inr (.inr (.inl h3)))]
          subst hR
          have c3 : (pe == 3) = true := beq_iff_eq.2 h3
          have hB := HC2.out.ex HY5.out
          have HB := Lib.hid hB
          have f0 := hB.frozen 0
          have f1 := hB.frozen 1
          have z0 := hB.cell 0
          have z1 := hB.cell 1
          have zl := hB.lt
          clear hB HO h3
          go_wp2_with fail
          exact pnEnd (x := (0, 0, 3)) HX5.out (by omega) HB.out rfl rfl
        have c3 : (pe == 3) = false := beq_eq_false_iff_ne.2 h3
        go_wp2_with fail
        refine (HPf.out _).mono ?_
        rintro e9 w6 ⟨rfl, hx⟩
        have HX6 := Lib.hid (HX5.out.trans hx)
        have HY6 := Lib.hid (HY5.out.trans hx)
        clear hx HPf
        cases hp with
        | true =>
          have hR : R = (0, 0, 3) := by rw [HO.out, if_pos (.inr (.inr (.inr rfl)))]
          subst hR
          have hB := HC2.out.ex HY6.out
          have HB := Lib.hid hB
          have f0 := hB.frozen 0
          have f1 := hB.frozen 1
          have z0 := hB.cell 0
          have z1 := hB.cell 1
          have zl := hB.lt
          clear hB HO h3
          go_wp2_with fail
          exact pnEnd (x := (0, 0, 3)) HX6.out (by omega) HB.out rfl rfl
        | false =>
          have hO2 := HO.out
          rw [if_neg (by simp [h3])] at hO2
          have HO2 := Lib.hid hO2
          have x0 := (HC1.out.ex HY6.out).cell 0
          have xl := (HC1.out.ex HY6.out).lt
          clear hO2 HO h3
          cases FI with
          | none =>
            have hR : R = (0, 0, 13) := HO2.out
            subst hR
            have HFj : Hid (∀ w', Ex w w' → Calls Tryz.prog 47 #[.agg #[.slice A t.length c], .string (bs a)] w' (Ret w' (.int .i64 (-1)))) := HFn
            go_wp2_with fail
            refine (HFj.out _ HX6.out).mono ?_
            rintro e9 w7 ⟨rfl, hx⟩
            have HX7 := Lib.hid (HX6.out.trans hx)
            have hB := HC2.out.ex (HY6.out.trans hx)
            have HB := Lib.hid hB
            have f0 := hB.frozen 0
            have f1 := hB.frozen 1
            have z0 := hB.cell 0
            have z1 := hB.cell 1
            have zl := hB.lt
            clear hB hx x0 xl
            go_wp2_with fail
            exact pnEnd (x := (0, 0, 13)) HX7.out (by omega) HB.out rfl rfl
          | some q =>
            have hql := HIx.out q rfl
            have HFj : Hid (∀ w', Ex w w' → Calls Tryz.prog 47 #[.agg #[.slice A t.length c], .string (bs a)] w' (Ret w' (.int .i64 (q : Int)))) := HFn
            have b3 : decide ((q : Int) < 0) = false := decide_eq_false (by omega)
            have hO3 : R = if pe ≠ 0 ∨ pv < 1 ∨ (evN t q : Int) < pv then (0, 0, 2) else ((q : Int), pv, 0) := HO2.out
            have HO3 := Lib.hid hO3
            clear hO3 HO2 HFn HIx
            go_wp2_with fail
            refine (HFj.out _ HX6.out).mono ?_
            rintro e9 w7 ⟨rfl, hx⟩
            have HX7 := Lib.hid (HX6.out.trans hx)
            have HY7 := Lib.hid (HY6.out.trans hx)
            clear hx x0 xl HFj
            have hB := HC2.out.ex HY7.out
            have HB := Lib.hid hB
            have f0 := hB.frozen 0
            have f1 := hB.frozen 1
            have z0 := hB.cell 0
            have z1 := hB.cell 1
            have zl := hB.lt
            clear hB
            by_cases h1 : pe = 0
            case neg =>
              have hR : R = (0, 0, 2) := by rw [HO3.out, if_pos (.inl h1)]
              subst hR
              have d1 : (pe != 0) = true := bne_iff_ne.2 h1
              clear HO3 h1
              go_wp2_with fail
              exact pnEnd (x := (0, 0, 2)) HX7.out (by omega) HB.out rfl rfl
            have d1 : (pe != 0) = false := by rw [h1]; rfl
            by_cases h2 : pv < 1
            · have hR : R = (0, 0, 2) := by rw [HO3.out, if_pos (.inr (.inl h2))]
              subst hR
              have d2 : decide (pv < 1) = true := decide_eq_true h2
              clear HO3 h1 h2
              go_wp2_with fail
              exact pnEnd (x := (0, 0, 2)) HX7.out (by omega) HB.out rfl rfl
            have d2 : decide (pv < 1) = false := decide_eq_false h2
            obtain ⟨x, hx⟩ : ∃ x, t[q]? = some x := ⟨_, List.getElem?_eq_getElem hql⟩
            have hen : evN t q = x.evs.length := by unfold evN; rw [hx]
            obtain ⟨b4, o4, hA, hbl, V, vc, E, ec, -, -, g2, -, -⟩ := HT.out.ex HX7.out q x hx
            subst hA
            have x0 := (HC1.out.ex HY7.out).cell 0
            have xl := (HC1.out.ex HY7.out).lt
            have m0 : (0 : Int) ≤ (q : Int) := by omega
            have m1 : (q : Int) < (t.length : Int) := by omega
            by_cases h4 : (x.evs.length : Int) < pv
            · have hR : R = (0, 0, 2) := by rw [HO3.out, if_pos (.inr (.inr (by rw [hen]; exact h4)))]
              subst hR
              have d4 : decide ((x.evs.length : Int) < pv) = true := decide_eq_true h4
              clear HO3 h1 h2 h4 hx hen
              go_wp2_with fail
              exact pnEnd (x := (0, 0, 2)) HX7.out (by omega) HB.out rfl rfl
            · have hR : R = ((q : Int), pv, 0) := by rw [HO3.out, if_neg (by rw [hen]; rintro (h | h | h); exact h h1; exact h2 h; exact h4 h)]
              subst hR
              have d4 : decide ((x.evs.length : Int) < pv) = false := decide_eq_false h4
              clear HO3 h1 h2 h4 hx hen
              go_wp2_with fail
              exact pnEnd (x := ((q : Int), pv, 0)) HX7.out (by omega) HB.out rfl rfl
end
section
open Go.RowKit Nu
def ev0 : Ev := ⟨0, 0, 0, 0, []⟩
/-- the event of a line of a process, or an error -/
def pevO (t : List Pr) (x : Pr) (l : List UInt8) : Ev × Int :=
  match evL x.vars l 1 with
  | .error y => (ev0, y.1)
  | .ok S => if S.kind = 1 then (evOf S, 0) else match pIdx S.peer (t.map (·.name)) with
    | none => (ev0, 13)
    | some q => ({ evOf S with peer := (q : Int) }, 0)
noncomputable def pevV (t : List Pr) (p : Int) (l : List UInt8) : Ev × Int :=
  if validB t = true then (if p < 0 ∨ (t.length : Int) ≤ p then (ev0, 2) else if 16384 < l.length then (ev0, 5) else match t[p.toNat]? with
    | none => (ev0, 2)
    | some x => pevO t x l) else (ev0, 1)
def evA9 (x : Ev) (B : Option Addr) (c : Nat) : Value := .agg #[.int .i64 x.kind, .int .i64 x.peer, .int .i64 x.msg, .int .i64 x.time, .slice B x.asg.length c]
/-- what ParseEvent leaves -/
def PevR (W : World) (x : Ev × Int) (e : Ending) (w' : World) : Prop :=
  ∃ B c, e = .returned (.tuple #[evA9 x.1 B c, .int .i64 x.2]) ∧ Row w' B (asgV x.1.asg) ∧ Ex W w'
theorem results_pev {fn : Func} {p s g : Nat} {a b c d e x : Value} {w : World} {tmps : Array Value} (hr : fn.results = #[.cell p 38, .tmp s]) (hp : tmps.getD p undef = .pointer (some ⟨g, 0, none⟩)) (hs : tmps.getD s undef = x) (hB : Blk w g 38 [a, b, c, d, e]) :
    (results fn tmps).run Tryz.prog w = .ok (.tuple #[.agg #[a, b, c, d, e], x]) w := by
  have h0 : w.cell? ⟨g, 0, none⟩ = some a := hB.cell 0
  have h1 : w.cell? ⟨g, 1, none⟩ = some b := hB.cell 1
  have h2 : w.cell? ⟨g, 2, none⟩ = some c := hB.cell 2
  have h3 : w.cell? ⟨g, 3, none⟩ = some d := hB.cell 3
  have h4 : w.cell? ⟨g, 4, none⟩ = some e := hB.cell 4
  rw [Array.getD_eq_getD_getElem?] at hp hs
  simp [results, hr, hp, hs, go_sem, h0, h1, h2, h3, h4]
def put5 (w : World) (g : Nat) (a b c d e : Value) : World := ((((w.setCell ⟨g, 0, none⟩ a).setCell ⟨g, 1, none⟩ b).setCell ⟨g, 2, none⟩ c).setCell ⟨g, 3, none⟩ d).setCell ⟨g, 4, none⟩ e
theorem put5_blk {w : World} {g : Nat} {a b c d e a' b' c' d' e' : Value} (h : Blk w g 38 [a', b', c', d', e']) : Blk (put5 w g a b c d e) g 38 [a, b, c, d, e] :=
  ((((h.set_ 0 a).set_ 1 b).set_ 2 c).set_ 3 d).set_ 4 e
theorem put5_ex {W w : World} {g : Nat} {a b c d e : Value} (hx : Ex W w) (hg : W.heap.size ≤ g) : Ex W (put5 w g a b c d e) :=
  ((((hx.setCell (p := ⟨g, 0, none⟩) hg a).setCell (p := ⟨g, 1, none⟩) hg b).setCell (p := ⟨g, 2, none⟩) hg c).setCell (p := ⟨g, 3, none⟩) hg d).setCell (p := ⟨g, 4, none⟩) hg e
theorem put5_own {w : World} {g n base : Nat} {v : Value} {xs : List Value} {a b c d e a' b' c' d' e' : Value} (h : OwnO w base 102 2 v n xs) (hB : Blk w g 38 [a', b', c', d', e']) : OwnO (put5 w g a b c d e) base 102 2 v n xs := by
  have b1 := hB.set_ 0 a
  have b2 := b1.set_ 1 b
  have b3 := b2.set_ 2 c
  have b4 := b3.set_ 3 d
  have h1 := h.chg (Chg.set ⟨_, hB⟩ 0 a) (by decide)
  have h2 := h1.chg (Chg.set ⟨_, b1⟩ 1 b) (by decide)
  have h3 := h2.chg (Chg.set ⟨_, b2⟩ 2 c) (by decide)
  have h4 := h3.chg (Chg.set ⟨_, b3⟩ 3 d) (by decide)
  exact h4.chg (Chg.set ⟨_, b4⟩ 4 e) (by decide)
/-- an error -/
theorem pevErr {W w1 : World} {g : Nat} {er : Int} {tmps : Array Value} {a b c d e : Value} (hx : Ex W w1) (hg : W.heap.size ≤ g) (hB : Blk w1 g 38 [a, b, c, d, e]) (hp : tmps.getD 6 undef = .pointer (some ⟨g, 0, none⟩)) (hs : tmps.getD 7 undef = .int .i64 er) :
    bodyPost Tryz.prog Tryz.f17 (PevR W (ev0, er)) .ret ⟨tmps, []⟩ (put5 w1 g (.int .i64 0) (.int .i64 0) (.int .i64 0) (.int .i64 0) (.slice none 0 0)) :=
  bodyPost_ret (results_pev rfl hp hs (put5_blk hB)) rfl ⟨none, 0, rfl, .inl rfl, put5_ex hx hg⟩
theorem pevErrD {W w1 : World} {g : Nat} {er : Int} {tmps : Array Value} {a b c d e : Value} (hx : Ex W w1) (hg : W.heap.size ≤ g) (hB : Blk w1 g 38 [a, b, c, d, e]) (hp : tmps.getD 6 undef = .pointer (some ⟨g, 0, none⟩)) (hs : tmps.getD 7 undef = .int .i64 er) :
    bodyPost Tryz.prog Tryz.f17 (PevR W (ev0, er)) .ret ⟨tmps, []⟩ (put5 w1 g (.int .i64 0) (.int .i64 0) (.int .i64 0) (.int .i64 0) (.slice none 0 0)).drew :=
  bodyPost_ret (results_pev rfl hp hs (put5_blk hB).drew) rfl ⟨none, 0, rfl, .inl rfl, (put5_ex hx hg).drew⟩
/-- the event -/
theorem pevOk {W w1 : World} {g base : Nat} {x : Ev} {B : Option Addr} {bc : Nat} {tmps : Array Value} {a b c d e : Value} (hx : Ex W w1) (hg : W.heap.size ≤ g) (hB : Blk w1 g 38 [a, b, c, d, e]) (hO : OwnO w1 base 102 2 (.slice B x.asg.length bc) x.asg.length (asgV x.asg)) (hp : tmps.getD 6 undef = .pointer (some ⟨g, 0, none⟩)) (hs : tmps.getD 7 undef = .int .i64 0) :
    bodyPost Tryz.prog Tryz.f17 (PevR W (x, 0)) .ret ⟨tmps, []⟩ (put5 w1 g (.int .i64 x.kind) (.int .i64 x.peer) (.int .i64 x.msg) (.int .i64 x.time) (.slice B x.asg.length bc)) :=
  bodyPost_ret (results_pev rfl hp hs (put5_blk hB)) rfl ⟨B, bc, rfl, OwnO.row' (put5_own hO hB), put5_ex hx hg⟩
set_option maxRecDepth 100000 in
set_option maxHeartbeats 12800000 in
theorem pev_c (t : List Pr) (A : Option Addr) (c : Nat) (p : Int) (l : List UInt8) (w : World) (hE : Env w) (hT : TcC w A t) (hs : TSm t) (hcap : t.length ≤ c) (hl : l.length ≤ 19000) (hvb : ∀ x ∈ t, x.vars.length ≤ 20000 ∧ ∀ v ∈ x.vars, v.1.size ≤ 20000) :
    Calls Tryz.prog 17 #[.agg #[.slice A t.length c], .int .i64 p, .string (bs l)] w (PevR w (pevV t p l)) := by
  have HE : Hid (∀ w', Ex w w' → Env w') := fun w' h => hE.ex h
  have HT := Lib.hid hT
  have htl := hs.procs
  have HV := Lib.hid (fun w' (h : Ex w w') => pValid_c t A c w' (hT.ex h) hs hcap)
  have HSm := Lib.hid hs
  have hsl : (bs l).size = l.length := rfl
  obtain ⟨W1, hW1⟩ : ∃ W1, W1 = (w.alloc (.cells #[.slice A t.length c] 24)).alloc (.cells #[.int .i64 0, .int .i64 0, .int .i64 0, .int .i64 0, .slice none 0 0] 38) := ⟨_, rfl⟩
  have hX1 : Ex w W1 := by rw [hW1]; exact ((Ex.refl w).alloc _).alloc _
  have hz1 : ∀ o : Obj, (w.alloc o).heap.size = w.heap.size + 1 := fun o => Array.size_push _
  have hB1 : Blk W1 w.heap.size 24 [.slice A t.length c] := by rw [hW1]; exact (Blk.new w _ _).alloc _
  have hB2 : Blk W1 (w.heap.size + 1) 38 [.int .i64 0, .int .i64 0, .int .i64 0, .int .i64 0, .slice none 0 0] := by rw [hW1, ← hz1]; exact Blk.new _ _ _
  have HW1 := Lib.hid hW1
  have HX1 := Lib.hid hX1
  have HB1 := Lib.hid hB1
  have HB2 := Lib.hid hB2
  have x0 := hB1.cell 0
  have xl := hB1.lt
  obtain ⟨R, hRR⟩ : ∃ R, R = pevV t p l := ⟨_, rfl⟩
  rw [← hRR]
  unfold pevV at hRR
  have HR := Lib.hid hRR
  clear hRR
  clear hE hT hs hcap hW1 hX1 hB1 hB2 hz1
  go_enter Tryz.func17, Tryz.ntmps17
  go_upto_region 1 with fail
  rw [← HW1.out]
  go_wp2_with fail
  refine (HV.out _ HX1.out).mono ?_
  rintro e9 w2 ⟨rfl, hx⟩
  have HX2 := Lib.hid (HX1.out.trans hx)
  have HC1 := Lib.hid (HB1.out.ex hx)
  have HC2 := Lib.hid (HB2.out.ex hx)
  clear hx x0 xl HV HB1 HB2 HW1 HX1
  have f0 := HC2.out.frozen 0
  have f1 := HC2.out.frozen 1
  have f2 := HC2.out.frozen 2
  have f3 := HC2.out.frozen 3
  have f4 := HC2.out.frozen 4
  have z0 := HC2.out.cell 0
  have z1 := HC2.out.cell 1
  have z2 := HC2.out.cell 2
  have z3 := HC2.out.cell 3
  have z4 := HC2.out.cell 4
  have zl := HC2.out.lt
  have x0 := HC1.out.cell 0
  have xl := HC1.out.lt
  cases hv : validB t with
  | false =>
    have hR : R = (ev0, 1) := by rw [HR.out, if_neg (by rw [hv]; decide)]
    subst hR
    clear hv HR
    go_wp2_with fail
    exact pevErr HX2.out (by omega) HC2.out rfl rfl
  | true =>
    have hR := HR.out
    rw [if_pos hv] at hR
    have HR1 := Lib.hid hR
    clear hv hR HR
    by_cases h1 : p < 0
    · have hR : R = (ev0, 2) := by rw [HR1.out, if_pos (.inl h1)]
      subst hR
      have d1 : decide (p < 0) = true := decide_eq_true h1
      clear HR1 h1
      go_wp2_with fail
      exact pevErr HX2.out (by omega) HC2.out rfl rfl
    have d1 : decide (p < 0) = false := decide_eq_false h1
    by_cases h2 : (t.length : Int) ≤ p
    · have hR : R = (ev0, 2) := by rw [HR1.out, if_pos (.inr h2)]
      subst hR
      have d2 : decide ((t.length : Int) ≤ p) = true := decide_eq_true h2
      clear HR1 h1 h2
      go_wp2_with fail
      exact pevErr HX2.out (by omega) HC2.out rfl rfl
    have d2 : decide ((t.length : Int) ≤ p) = false := decide_eq_false h2
    by_cases h3 : 16384 < l.length
    · have hR : R = (ev0, 5) := by rw [HR1.out, if_neg (by rintro (h | h); exact h1 h; exact h2 h), if_pos h3]
      subst hR
      have d3 : decide ((16384 : Int) < (l.length : Int)) = true := decide_eq_true (by omega)
      clear HR1 h1 h2 h3
      go_wp2_with fail
      exact pevErr HX2.out (by omega) HC2.out rfl rfl
    have d3 : decide ((16384 : Int) < (l.length : Int)) = false := decide_eq_false (by omega)
    obtain ⟨q, rfl⟩ : ∃ q : Nat, p = (q : Int) := ⟨p.toNat, by omega⟩
    obtain ⟨x, hx⟩ : ∃ x, t[q]? = some x := ⟨_, List.getElem?_eq_getElem (by omega)⟩
    have hR : R = pevO t x l := by rw [HR1.out, if_neg (by rintro (h | h); exact h1 h; exact h2 h), if_neg h3, Int.toNat_natCast, hx]
    have HSm9 : ∀ x, t[q]? = some x → x.vars.length ≤ 20000 ∧ ∀ v ∈ x.vars, v.1.size ≤ 20000 := fun x hx => hvb x (List.mem_of_getElem? hx)
    have m0 : (0 : Int) ≤ (q : Int) := by omega
    have m1 : (q : Int) < (t.length : Int) := by omega
    have HR2 := Lib.hid hR
    clear hR HR1 h1 h2 h3
    obtain ⟨b4, o4, hA, hbl, V, vc, E, ec, g0, g1, g2, ⟨hV, -, -⟩, -⟩ := HT.out q x hx
    subst hA
    have HRd := Lib.hid (read_c l 1 w2 (HE.out w2 HX2.out) (by omega) (by omega))
    have hlens := spl_lens 32 l
    have HVr := Lib.hid hV
    have HEv := Lib.hid (fun g w' (h : RdC w' g (spl 32 l) (colF 1 (spl 32 l)) (1 + l.length) ⟨0, 0, 0⟩) hE hV => event_c g (spl 32 l) (colF 1 (spl 32 l)) (1 + l.length) x.vars V vc w' h (fun x hx => Nat.le_trans (hlens.2 x hx) (by omega)) hE hV (HSm9 x hx).1 (HSm9 x hx).2)
    have HEP := Lib.hid (event_plain x.vars l 1 (spl 32 l).length (Nat.le_refl _))
    generalize evF x.vars (spl 32 l) (colF 1 (spl 32 l)) (1 + l.length) (spl 32 l).length ⟨0, 0, 0⟩ = F at *
    generalize colF 1 (spl 32 l) = cs at *
    generalize spl 32 l = ws at *
    generalize 1 + l.length = en at *
    have HG1 : Hid (∀ w', Ex w w' → w'.cell? ⟨b4, o4 + q * 3 + 1, none⟩ = some (.slice V x.vars.length vc)) := fun w' h => (h.below.cell hbl).trans g1
    have HBl : Hid (∀ w', Ex w w' → b4 < w'.heap.size) := fun w' h => Nat.lt_of_lt_of_le hbl h.below.size
    clear g0 g1 g2 hV hlens hbl hx
    go_wp2_with fail
    refine (HRd.out).mono ?_
    rintro e9 w3 ⟨g, rfl, hgw, hr3, hx3⟩
    have HX3 := Lib.hid hx3
    have HR3 := Lib.hid hr3
    have HGw := Lib.hid hgw
    clear f0 f1 f2 f3 f4 z0 z1 z2 z3 z4 zl x0 xl HRd
    have x0 := (HC1.out.ex hx3).cell 0
    have xl := (HC1.out.ex hx3).lt
    have k1 := HG1.out w3 (HX2.out.trans hx3)
    have kl := HBl.out w3 (HX2.out.trans hx3)
    clear hr3 hx3 hgw
    go_wp2_with fail
    refine (HEv.out g w3 HR3.out (fun w' hg => HE.out w' (HX2.out.trans (Exg.out HX3.out hg HGw.out))) (fun w' hg => HVr.out.ex (HX2.out.trans (Exg.out HX3.out hg HGw.out)))).mono ?_
    rintro e9 w4 ⟨B, bc, rfl, ho4, hr4, hg4⟩
    have hY4 := Exg.out HX3.out hg4 HGw.out
    have HX4 := Lib.hid (HX2.out.trans hY4)
    have HD1 := Lib.hid (HC1.out.ex hY4)
    have HD2 := Lib.hid (HC2.out.ex hY4)
    have c4 := hr4.cell4
    have lg := hr4.lt
    have hB9 := Blk.new w4 38 [.int .i64 F.kind, .int .i64 0, .int .i64 F.msg, .int .i64 F.time, .slice B F.asg.length bc]
    have hX9 : Ex w4 (w4.alloc (.cells #[.int .i64 F.kind, .int .i64 0, .int .i64 F.msg, .int .i64 F.time, .slice B F.asg.length bc] 38)) := (Ex.refl w4).alloc _
    have d4 := (hX9.below.cell lg).trans c4
    have dl := Nat.lt_of_lt_of_le lg hX9.below.size
    have HO9 := Lib.hid (ho4.ex hX9)
    have HX9 := Lib.hid (HX4.out.trans hX9)
    have HF1 := Lib.hid (HD1.out.ex hX9)
    have HF2 := Lib.hid (HD2.out.ex hX9)
    have hxb : w.heap.size + 1 < w4.heap.size := HD2.out.lt
    unfold EvtV
    go_upto_region 9 with fail
    obtain ⟨xb, hxe⟩ : ∃ xb, xb = w4.heap.size := ⟨_, rfl⟩
    rw [← hxe] at hB9 hxb ⊢
    have HB9 := Lib.hid hB9
    clear hX9 hB9 hxe c4 lg ho4 hr4 hg4 hY4 x0 xl k1 kl HX4 HD1 HD2 HEv HR3
    generalize w4.alloc (.cells #[.int .i64 F.kind, .int .i64 0, .int .i64 F.msg, .int .i64 F.time, .slice B F.asg.length bc] 38) = W9 at *
    have f0 := HF2.out.frozen 0
    have f1 := HF2.out.frozen 1
    have f2 := HF2.out.frozen 2
    have f3 := HF2.out.frozen 3
    have f4 := HF2.out.frozen 4
    have z0 := HF2.out.cell 0
    have z1 := HF2.out.cell 1
    have z2 := HF2.out.cell 2
    have z3 := HF2.out.cell 3
    have z4 := HF2.out.cell 4
    have zl := HF2.out.lt
    have x0 := HF1.out.cell 0
    have xl := HF1.out.lt
    have b0 := HB9.out.cell 0
    have b1 := HB9.out.cell 1
    have b2 := HB9.out.cell 2
    have b3 := HB9.out.cell 3
    have b4' := HB9.out.cell 4
    have bf := HB9.out.frozen 1
    have bl := HB9.out.lt
    have hRO := HR2.out
    unfold pevO at hRO
    cases hev : evL x.vars l 1 with
    | error y =>
      have hEP := HEP.out
      rw [hev] at hEP hRO
      obtain ⟨he1, he2, he3⟩ := hEP
      dsimp only at hRO
      subst hRO
      rw [he1] at d4
      have be : (y.1 != 0) = true := bne_iff_ne.2 he3
      clear he1 he2 he3 hev HEP
      have hgn : g ≠ w.heap.size + 1 := by have h1 := HC2.out.lt; have h2 := HGw.out; omega
      have hgn2 : w.heap.size + 1 ≠ g := fun e => hgn e.symm
      go_upto_region 10 with fail
      go_region
      go_wp2_with fail
      exact pevErrD HX9.out (by omega) HF2.out rfl rfl
    | ok S =>
      have hEP := HEP.out
      rw [hev] at hEP hRO
      obtain ⟨he1, s1, s2, s3, s4, s5, s6⟩ := hEP
      dsimp only at hRO
      rw [he1] at d4
      have hevO : evOf S = ⟨F.kind, 0, F.msg, F.time, F.asg⟩ := by unfold evOf; rw [s1, s4, s5, s6]
      rw [hevO, s1, s2] at hRO
      clear hev HEP he1 s1 s2 s3 s4 s5 s6 hevO
      by_cases hk : F.kind = 1
      · rw [if_pos hk] at hRO
        subst hRO
        have c1 : (F.kind != 1) = false := by rw [hk]; rfl
        clear hk
        go_wp2_with fail
        exact pevOk (x := ⟨F.kind, 0, F.msg, F.time, F.asg⟩) HX9.out (by omega) HF2.out HO9.out rfl rfl
      rw [if_neg hk] at hRO
      have c1 : (F.kind != 1) = true := bne_iff_ne.2 hk
      have HFi : Hid (∀ w', Ex w w' → Calls Tryz.prog 47 #[.agg #[.slice (some ⟨b4, o4, none⟩) t.length c], .string (bs F.peer)] w' (Ret w' (.int .i64 (idxV (pIdx (bs F.peer) (t.map (·.name))))))) := fun w' h => find_c t (some ⟨b4, o4, none⟩) c (bs F.peer) w' (HT.out.ex h) htl
      cases hz : pIdx (bs F.peer) (t.map (·.name)) with
      | none =>
        rw [hz] at HFi hRO
        dsimp only at hRO
        subst hRO
        have HFj : Hid (∀ w', Ex w w' → Calls Tryz.prog 47 #[.agg #[.slice (some ⟨b4, o4, none⟩) t.length c], .string (bs F.peer)] w' (Ret w' (.int .i64 (-1)))) := HFi
        clear hz HFi hk
        go_wp2_with fail
        refine (HFj.out _ HX9.out).mono ?_
        rintro e9 v1 ⟨rfl, hx⟩
        have HXv := Lib.hid (HX9.out.trans hx)
        have hB6 := HB9.out.ex hx
        have hF6 := HF2.out.ex hx
        clear f0 f1 f2 f3 f4 z0 z1 z2 z3 z4 zl x0 xl b0 b1 b2 b3 b4' bf bl d4 dl
        have f0 := hF6.frozen 0
        have f1 := hF6.frozen 1
        have f2 := hF6.frozen 2
        have f3 := hF6.frozen 3
        have f4 := hF6.frozen 4
        have z0 := hF6.cell 0
        have z1 := hF6.cell 1
        have z2 := hF6.cell 2
        have z3 := hF6.cell 3
        have z4 := hF6.cell 4
        have zl := hF6.lt
        have b1 := hB6.cell 1
        have bf := hB6.frozen 1
        have bl := hB6.lt
        have hne : xb ≠ w.heap.size + 1 := by omega
        have hne2 : w.heap.size + 1 ≠ xb := by omega
        have HF7 := Lib.hid (hF6.far (p := ⟨xb, 1, none⟩) hne2 (.int .i64 (-1)))
        clear hB6 hF6 hx
        go_wp2_with fail
        exact pevErr (HXv.out.setCell (p := ⟨xb, 1, none⟩) (by show _ ≤ xb; omega) _) (by omega) HF7.out rfl rfl
      | some z =>
        rw [hz] at HFi hRO
        dsimp only at hRO
        subst hRO
        have HFj : Hid (∀ w', Ex w w' → Calls Tryz.prog 47 #[.agg #[.slice (some ⟨b4, o4, none⟩) t.length c], .string (bs F.peer)] w' (Ret w' (.int .i64 (z : Int)))) := HFi
        have dz : decide ((z : Int) < 0) = false := decide_eq_false (by omega)
        clear hz HFi hk
        go_wp2_with fail
        refine (HFj.out _ HX9.out).mono ?_
        rintro e9 v1 ⟨rfl, hx⟩
        have HXv := Lib.hid (HX9.out.trans hx)
        have hB6 := HB9.out.ex hx
        have hF6 := HF2.out.ex hx
        have hO6 := HO9.out.ex hx
        clear f0 f1 f2 f3 f4 z0 z1 z2 z3 z4 zl x0 xl b0 b1 b2 b3 b4' bf bl d4 dl
        have f0 := hF6.frozen 0
        have f1 := hF6.frozen 1
        have f2 := hF6.frozen 2
        have f3 := hF6.frozen 3
        have f4 := hF6.frozen 4
        have z0 := hF6.cell 0
        have z1 := hF6.cell 1
        have z2 := hF6.cell 2
        have z3 := hF6.cell 3
        have z4 := hF6.cell 4
        have zl := hF6.lt
        have b0 := hB6.cell 0
        have b1 := hB6.cell 1
        have b2 := hB6.cell 2
        have b3 := hB6.cell 3
        have b4' := hB6.cell 4
        have bf := hB6.frozen 1
        have bl := hB6.lt
        have hne : xb ≠ w.heap.size + 1 := by omega
        have hne2 : w.heap.size + 1 ≠ xb := by omega
        have HF7 := Lib.hid (hF6.far (p := ⟨xb, 1, none⟩) hne2 (.int .i64 (z : Int)))
        have HO7 := Lib.hid (hO6.chg (Chg.set ⟨_, hB6⟩ 1 (.int .i64 (z : Int))) (by decide))
        clear hB6 hF6 hO6 hx
        go_wp2_with fail
        exact pevOk (x := ⟨F.kind, (z : Int), F.msg, F.time, F.asg⟩) (HXv.out.setCell (p := ⟨xb, 1, none⟩) (by show _ ≤ xb; omega) _) (by omega) HF7.out HO7.out rfl rfl
end
end Go.Proofs.YtpmponafjhnegaaGreatDoor
