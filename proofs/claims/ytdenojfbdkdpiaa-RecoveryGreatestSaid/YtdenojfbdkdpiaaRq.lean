/-
  The law RecoveryGreatest, walked.
  Conditions: as each theorem says.
-/
import Derived.Test.YtdenojfbdkdpiaaRm
import Derived.Test.YtdenojfbdkdpiaaRp
namespace Go.Proofs.Ytdenojfbdkdpiaa
open Go.RowKit Go.Shelf
theorem great1_c (n : Int) (nb : Nat) (B : Option Addr) (L lc : Nat) (w : World) (hc : w.cell? ⟨nb, 0, none⟩ = some (.slice B L lc)) :
    Calls Try.prog 40 #[.int .i64 n, .pointer (some ⟨nb, 0, none⟩)] w (Ret w (.bool (decide (n < 0) || decide ((L : Int) ≤ n)))) := by
  by_cases h : n < 0
  · have s1 : decide (n < 0) = true := decide_eq_true h
    go_enter Try.func40, Try.ntmps40
    go_wp2_with fail
    go_ret
    exact Ret.mk (by rw [s1]; rfl) (Ex.refl w)
  · have s1 : decide (n < 0) = false := decide_eq_false h
    go_enter Try.func40, Try.ntmps40
    go_wp2_with fail
    go_ret
    exact Ret.mk rfl (Ex.refl w)
theorem enters_g1 : ∀ args w, (callFunc 40 args).run Try.prog w = .ok (.enter 40 args) w := enters_of Try.func40 (by kernel_rfl) rfl
theorem anyG_c (B : Option Addr) (L lc nb : Nat) (F : List Int) (FA : Option Addr) (fc nF : Nat) (w : World) (hnF : F.length = nF) (hF : Row w FA (intsV F)) (hn : F.length ≤ 1000000000) (hb : nb < w.heap.size) (hc : w.cell? ⟨nb, 0, none⟩ = some (.slice B L lc)) :
    Calls Try.prog 25 #[.slice FA nF fc, .func (.func 40) #[] #[.pointer (some ⟨nb, 0, none⟩)]] w (Ret w (.bool (badF2 F L))) := by
  subst hnF
  have h := anyInt_c 40 #[.pointer (some ⟨nb, 0, none⟩)] enters_g1 FA F.length fc (fun j => .int .i64 (F[j]?.getD 0)) (fun j => (fun n => decide (n < 0) || decide ((L : Int) ≤ n)) (F[j]?.getD 0)) w hn
    (fun w' hx j hj => by
      obtain ⟨b, o, e, hb, hcs⟩ := row_at (hF.ex hx) (fun h => by rw [h] at hj; exact absurd hj (Nat.not_lt_zero _))
      refine ⟨b, o, e, hb, hcs j _ ?_⟩
      rw [List.getElem?_eq_getElem hj]
      rfl)
    (fun w' hx j hj => great1_c _ nb B L lc w' ((hx.below.cell hb).trans hc))
  rw [any_range (fun n : Int => decide (n < 0) || decide ((L : Int) ≤ n)) F F.length (Nat.le_refl _) 0, List.take_length] at h
  exact h
theorem lin_leq {t : List Pr} {l : List (List Int)} {F a cs : List Int} (ha : IsTop (msgs t) (permF l F) a) (h : linB t l F cs = true) : Geq a cs := ha.top _ (linB_iff.1 h)
set_option maxRecDepth 100000 in
set_option maxHeartbeats 6400000 in
theorem greatest_law (t : List Pr) (A : Option Addr) (c : Nat) (l : List (List Int)) (B : Option Addr) (lc : Nat) (F : List Int) (FA : Option Addr) (fc : Nat) (G : List Int) (GA : Option Addr) (gc : Nat) (w : World) (hT : TcC w A t) (hcap : t.length ≤ c) (hL : LlC w B l) (hF : Row w FA (intsV F)) (hG : Row w GA (intsV G)) (htl : t.length ≤ 281474976710656) (hbig : ∀ x, x ∈ t → x.evs.length ≤ 281474976710656) :
    Calls Try.prog 9 #[.agg #[.slice A t.length c], .slice B l.length lc, .slice FA F.length fc, .slice GA G.length gc] w (Ret w (.bool true)) := by
  have HAw := Lib.hid awake_c
  have HFw := Lib.hid (fun w' (h : Ex w w') => few_c t A c 80 w' (hT.ex h) (by decide) htl hbig)
  have HSh := Lib.hid (fun w' (h : Ex w w') => short_c l B lc w' (hL.ex h))
  obtain ⟨W0, hW0⟩ : ∃ W0, W0 = w.alloc (.cells #[.slice A t.length c] 24) := ⟨_, rfl⟩
  have HX0 : Hid (Ex w W0) := by rw [hW0]; exact (Ex.refl w).alloc _
  have HB0 : Hid (∀ w', Ex W0 w' → Blk w' w.heap.size 24 [.slice A t.length c]) := fun w' hx => by
    have : Blk W0 w.heap.size 24 [.slice A t.length c] := by rw [hW0]; exact Blk.new w _ _
    exact this.ex hx
  have HW0 := Lib.hid hW0
  clear hW0
  cases hfw : fewB t 80 with
  | false =>
    rw [hfw] at HFw
    clear hT hcap hL hF hG htl hbig hfw
    go_enter Try.func9, Try.ntmps9
    go_wp2_with fail
    rw [← HW0.out]
    refine (HAw.out _).mono ?_
    rintro e9 w1 ⟨rfl, hx1⟩
    have HX1 := Lib.hid (hx1)
    clear hx1
    have a0 := (HB0.out _ HX1.out).cell 0
    have al := (HB0.out _ HX1.out).lt
    go_wp2_with fail
    clear a0 al
    refine (HFw.out _ (HX0.out.trans HX1.out)).mono ?_
    rintro e9 w2 ⟨rfl, hx2⟩
    have HX2 := Lib.hid (HX1.out.trans hx2)
    clear hx2
    have a0 := (HB0.out _ HX2.out).cell 0
    have al := (HB0.out _ HX2.out).lt
    go_wp2_with fail
    clear a0 al
    refine (HAw.out _).mono ?_
    rintro e9 w9 ⟨rfl, hx9⟩
    have HX9 := Lib.hid (HX2.out.trans hx9)
    clear hx9
    go_wp2_with fail
    go_ret
    exact Ret.mk rfl (HX0.out.trans HX9.out)
  | true =>
    rw [hfw] at HFw
    obtain ⟨hs, hsum, htl10⟩ := few_small (by decide) hfw
    cases hsh : shortB l with
    | false =>
      rw [hsh] at HSh
      clear hT hcap hL hF hG htl hbig hfw hsh hs htl10 hsum
      go_enter Try.func9, Try.ntmps9
      go_wp2_with fail
      rw [← HW0.out]
      refine (HAw.out _).mono ?_
      rintro e9 w1 ⟨rfl, hx1⟩
      have HX1 := Lib.hid (hx1)
      clear hx1
      have a0 := (HB0.out _ HX1.out).cell 0
      have al := (HB0.out _ HX1.out).lt
      go_wp2_with fail
      clear a0 al
      refine (HFw.out _ (HX0.out.trans HX1.out)).mono ?_
      rintro e9 w2 ⟨rfl, hx2⟩
      have HX2 := Lib.hid (HX1.out.trans hx2)
      clear hx2
      have a0 := (HB0.out _ HX2.out).cell 0
      have al := (HB0.out _ HX2.out).lt
      go_wp2_with fail
      clear a0 al
      refine (HSh.out _ (HX0.out.trans HX2.out)).mono ?_
      rintro e9 w3 ⟨rfl, hx3⟩
      have HX3 := Lib.hid (HX2.out.trans hx3)
      clear hx3
      have a0 := (HB0.out _ HX3.out).cell 0
      have al := (HB0.out _ HX3.out).lt
      go_wp2_with fail
      clear a0 al
      refine (HAw.out _).mono ?_
      rintro e9 w9 ⟨rfl, hx9⟩
      have HX9 := Lib.hid (HX3.out.trans hx9)
      clear hx9
      go_wp2_with fail
      go_ret
      exact Ret.mk rfl (HX0.out.trans HX9.out)
    | true =>
      rw [hsh] at HSh
      have hls := short_small hsh
      by_cases hf20 : 20 < F.length
      · have s20 : decide (20 < (F.length : Int)) = true := decide_eq_true (by omega)
        clear hT hcap hL hF hG htl hbig hfw hsh hs htl10 hsum hls hf20
        go_enter Try.func9, Try.ntmps9
        go_wp2_with fail
        rw [← HW0.out]
        refine (HAw.out _).mono ?_
        rintro e9 w1 ⟨rfl, hx1⟩
        have HX1 := Lib.hid (hx1)
        clear hx1
        have a0 := (HB0.out _ HX1.out).cell 0
        have al := (HB0.out _ HX1.out).lt
        go_wp2_with fail
        clear a0 al
        refine (HFw.out _ (HX0.out.trans HX1.out)).mono ?_
        rintro e9 w2 ⟨rfl, hx2⟩
        have HX2 := Lib.hid (HX1.out.trans hx2)
        clear hx2
        have a0 := (HB0.out _ HX2.out).cell 0
        have al := (HB0.out _ HX2.out).lt
        go_wp2_with fail
        clear a0 al
        refine (HSh.out _ (HX0.out.trans HX2.out)).mono ?_
        rintro e9 w3 ⟨rfl, hx3⟩
        have HX3 := Lib.hid (HX2.out.trans hx3)
        clear hx3
        have a0 := (HB0.out _ HX3.out).cell 0
        have al := (HB0.out _ HX3.out).lt
        go_wp2_with fail
        clear a0 al
        refine (HAw.out _).mono ?_
        rintro e9 w9 ⟨rfl, hx9⟩
        have HX9 := Lib.hid (HX3.out.trans hx9)
        clear hx9
        go_wp2_with fail
        go_ret
        exact Ret.mk rfl (HX0.out.trans HX9.out)
      have s20 : decide (20 < (F.length : Int)) = false := decide_eq_false (by omega)
      by_cases hg20 : 20 < G.length
      · have s21 : decide (20 < (G.length : Int)) = true := decide_eq_true (by omega)
        clear hT hcap hL hF hG htl hbig hfw hsh hs htl10 hsum hls hf20 hg20
        go_enter Try.func9, Try.ntmps9
        go_wp2_with fail
        rw [← HW0.out]
        refine (HAw.out _).mono ?_
        rintro e9 w1 ⟨rfl, hx1⟩
        have HX1 := Lib.hid (hx1)
        clear hx1
        have a0 := (HB0.out _ HX1.out).cell 0
        have al := (HB0.out _ HX1.out).lt
        go_wp2_with fail
        clear a0 al
        refine (HFw.out _ (HX0.out.trans HX1.out)).mono ?_
        rintro e9 w2 ⟨rfl, hx2⟩
        have HX2 := Lib.hid (HX1.out.trans hx2)
        clear hx2
        have a0 := (HB0.out _ HX2.out).cell 0
        have al := (HB0.out _ HX2.out).lt
        go_wp2_with fail
        clear a0 al
        refine (HSh.out _ (HX0.out.trans HX2.out)).mono ?_
        rintro e9 w3 ⟨rfl, hx3⟩
        have HX3 := Lib.hid (HX2.out.trans hx3)
        clear hx3
        have a0 := (HB0.out _ HX3.out).cell 0
        have al := (HB0.out _ HX3.out).lt
        go_wp2_with fail
        clear a0 al
        refine (HAw.out _).mono ?_
        rintro e9 w9 ⟨rfl, hx9⟩
        have HX9 := Lib.hid (HX3.out.trans hx9)
        clear hx9
        go_wp2_with fail
        go_ret
        exact Ret.mk rfl (HX0.out.trans HX9.out)
      have s21 : decide (20 < (G.length : Int)) = false := decide_eq_false (by omega)
      have HV := Lib.hid (fun w' (h : Ex w w') => rCp_c t A c l B lc w' (hT.ex h) hs (hL.ex h) hls)
      cases hv : cpB t l with
      | false =>
        rw [hv] at HV
        clear hT hcap hL hF hG htl hbig hfw hsh hs htl10 hsum hls hf20 hg20
        go_enter Try.func9, Try.ntmps9
        go_wp2_with fail
        rw [← HW0.out]
        refine (HAw.out _).mono ?_
        rintro e9 w1 ⟨rfl, hx1⟩
        have HX1 := Lib.hid (hx1)
        clear hx1
        have a0 := (HB0.out _ HX1.out).cell 0
        have al := (HB0.out _ HX1.out).lt
        go_wp2_with fail
        clear a0 al
        refine (HFw.out _ (HX0.out.trans HX1.out)).mono ?_
        rintro e9 w2 ⟨rfl, hx2⟩
        have HX2 := Lib.hid (HX1.out.trans hx2)
        clear hx2
        have a0 := (HB0.out _ HX2.out).cell 0
        have al := (HB0.out _ HX2.out).lt
        go_wp2_with fail
        clear a0 al
        refine (HSh.out _ (HX0.out.trans HX2.out)).mono ?_
        rintro e9 w3 ⟨rfl, hx3⟩
        have HX3 := Lib.hid (HX2.out.trans hx3)
        clear hx3
        have a0 := (HB0.out _ HX3.out).cell 0
        have al := (HB0.out _ HX3.out).lt
        go_wp2_with fail
        clear a0 al
        refine (HV.out _ (HX0.out.trans HX3.out)).mono ?_
        rintro e9 w4 ⟨rfl, hx4⟩
        have HX4 := Lib.hid (HX3.out.trans hx4)
        clear hx4
        have a0 := (HB0.out _ HX4.out).cell 0
        have al := (HB0.out _ HX4.out).lt
        go_wp2_with fail
        clear a0 al
        refine (HAw.out _).mono ?_
        rintro e9 w9 ⟨rfl, hx9⟩
        have HX9 := Lib.hid (HX4.out.trans hx9)
        clear hx9
        go_wp2_with fail
        go_ret
        exact Ret.mk rfl (HX0.out.trans HX9.out)
      | true =>
        rw [hv] at HV
        have HAny := Lib.hid (fun w' (h : Ex W0 w') => anyG_c A t.length c w.heap.size F FA fc F.length w' rfl (hF.ex (HX0.out.trans h)) (by omega) (HB0.out _ h).lt ((HB0.out _ h).cell 0))
        cases hbd : badF2 F t.length with
        | true =>
          clear hT hcap hL hF hG htl hbig hfw hsh hs htl10 hsum hls hf20 hg20
          go_enter Try.func9, Try.ntmps9
          go_wp2_with fail
          rw [← HW0.out]
          refine (HAw.out _).mono ?_
          rintro e9 w1 ⟨rfl, hx1⟩
          have HX1 := Lib.hid (hx1)
          clear hx1
          have a0 := (HB0.out _ HX1.out).cell 0
          have al := (HB0.out _ HX1.out).lt
          go_wp2_with fail
          clear a0 al
          refine (HFw.out _ (HX0.out.trans HX1.out)).mono ?_
          rintro e9 w2 ⟨rfl, hx2⟩
          have HX2 := Lib.hid (HX1.out.trans hx2)
          clear hx2
          have a0 := (HB0.out _ HX2.out).cell 0
          have al := (HB0.out _ HX2.out).lt
          go_wp2_with fail
          clear a0 al
          refine (HSh.out _ (HX0.out.trans HX2.out)).mono ?_
          rintro e9 w3 ⟨rfl, hx3⟩
          have HX3 := Lib.hid (HX2.out.trans hx3)
          clear hx3
          have a0 := (HB0.out _ HX3.out).cell 0
          have al := (HB0.out _ HX3.out).lt
          go_wp2_with fail
          clear a0 al
          refine (HV.out _ (HX0.out.trans HX3.out)).mono ?_
          rintro e9 w4 ⟨rfl, hx4⟩
          have HX4 := Lib.hid (HX3.out.trans hx4)
          clear hx4
          have a0 := (HB0.out _ HX4.out).cell 0
          have al := (HB0.out _ HX4.out).lt
          go_wp2_with fail
          clear a0 al
          refine (HAny.out _ HX4.out).mono ?_
          rintro e9 w5 ⟨rfl, hx5⟩
          have HX5 := Lib.hid (HX4.out.trans hx5)
          clear hx5
          rw [hbd]
          have a0 := (HB0.out _ HX5.out).cell 0
          have al := (HB0.out _ HX5.out).lt
          go_wp2_with fail
          clear a0 al
          refine (HAw.out _).mono ?_
          rintro e9 w9 ⟨rfl, hx9⟩
          have HX9 := Lib.hid (HX5.out.trans hx9)
          clear hx9
          go_wp2_with fail
          go_ret
          exact Ret.mk rfl (HX0.out.trans HX9.out)
        | false =>
          have hlt : l.length = t.length := (cp_of hv).2.1
          have hb1 : badF2 F l.length = false := by rw [hlt]; exact hbd
          have hvt := (cp_of hv).1
          have HA1 := Lib.hid (fun w' (h : Ex w w') => afterG_c t A c l B lc F FA fc F.length w' (hT.ex h) hs hcap (hL.ex h) hls (hF.ex h) (by omega) rfl hv hb1)
          have HCo := Lib.hid (fun (cs : List Int) C cc L w' (h : Ex w w') (h1 : cs.length = t.length) (h2 : cs.length = L) (h3 : Row w' C (intsV cs)) (h4 : conB t cs = true) => pConsT_c t A c cs C cc L w' (hT.ex h) hs hcap h1 h2 h3 h4)
          have HLi := Lib.hid (fun (cs : List Int) C cc L w' (h : Ex w w') (h3 : Row w' C (intsV cs)) (h2 : cs.length = L) (h1 : L ≤ 100000) => line_c t A c l B lc F FA fc cs C cc L w' (hT.ex h) hs hv (hL.ex h) hls (hF.ex h) (by omega) h3 h2 h1)
          have HLq := Lib.hid (fun (xs ys : List Int) A1 A2 c1 c2 n w' (h1 : Row w' A1 (intsV xs)) (h2 : Row w' A2 (intsV ys)) (e1 : xs.length = n) (e2 : ys.length = n) (hg : Geq ys xs) (hn : n ≤ 1000000000) => leq_c xs ys A1 A2 c1 c2 n w' e1 e2 h1 h2 hg hn)
          have HRc := Lib.hid (fun w' (h : Ex w w') => rCons_c t A c G GA gc w' (hT.ex h) hs (hG.ex h))
          have HCl := Lib.hid (fun w' (h : Ex w w') => cloneI_c G GA gc G.length w' (hG.ex h) rfl (by omega))
          have HCt := Lib.hid (fun w' (x : Int) (h : Ex w w') => containsI_c F FA fc F.length x w' (hF.ex h) rfl (by omega))
          have HOp := Lib.hid (fun (cs : List Int) C cc L w' (h : Ex w w') (h1 : cs.length = t.length) (h2 : cs.length = L) (h3 : rngP t cs) (h4 : Row w' C (intsV cs)) => open_c t A c cs C cc L w' (hT.ex h) hs hcap hvt h1 h2 h3 h4)
          have HEq := Lib.hid (fun (xs ys : List Int) A1 A2 c1 c2 n w' (h1 : Row w' A1 (intsV xs)) (h2 : Row w' A2 (intsV ys)) (e1 : xs.length = n) (e2 : ys.length = n) (hn : n ≤ 1000000000) => equalM_n xs ys A1 A2 c1 c2 n n w' e1 e2 h1 h2 (by omega) (by omega))
          have HTop := Lib.hid (fun (a : List Int) (ha : IsTop (msgs t) (permF l F) a) => And.intro (linB_iff.2 ha.line) (lin_con hv ha.line))
          have HGe := Lib.hid (fun (a cs : List Int) (ha : IsTop (msgs t) (permF l F) a) (h : linB t l F cs = true) => lin_leq ha h)
          have HLl : Hid (∀ cs, linB t l F cs = true → cs.length = l.length) := fun cs h => by
            have := (linB_iff.1 h).len
            rw [permF_len] at this
            exact this
          have HCi := Lib.hid (fun (cs : List Int) (h : conB t cs = true) => (conB_iff.1 h).2)
          have HLo : Hid (∀ ds : List Int, ds.length = t.length → rngP t ds → Closed (msgs t) ds → (∀ (p : Nat) (r : List Int) (a : Int), p < ds.length → l[p]? = some r → ds[p]? = some a → a ∈ (if (p : Int) ∈ F then stored r else r)) → linB t l F ds = true) := fun ds h1 h2 h3 h4 => linB_iff.2 (lin_of hv (conB_iff.2 ⟨hvt, h1, h2, h3⟩) fun p r a hp hr ha => by
            have h := h4 p r a hp hr ha
            by_cases hpF : (p : Int) ∈ F
            · rw [if_pos hpF] at h; exact ⟨stored_sub h, fun _ => h⟩
            · rw [if_neg hpF] at h; exact ⟨h, fun h' => absurd h' hpF⟩)
          have HAsc := Lib.hid (cp_asc (cp_of hv).2)
          have HRl : Hid (∀ (p : Nat) (r : List Int), l[p]? = some r → r.length ≤ 100000) := fun p r hr => hls.each r (List.mem_of_getElem? hr)
          have HL : Hid (∀ w', Ex w w' → LlC w' B l) := fun w' hx => hL.ex hx
          have HGr : Hid (∀ w', Ex w w' → Row w' GA (intsV G)) := fun w' hx => hG.ex hx
          have HLt := Lib.hid hlt
          have hll := hls.rows
          have hg21 : G.length ≤ 20 := by omega
          clear hT hcap hL hF hG htl hbig hfw hsh hs htl10 hsum hls hf20 hg20 hb1 hlt hv hvt
          unfold OpenR at HOp
          cases hlb : linB t l F G with
          | true =>
            go_enter Try.func9, Try.ntmps9
            go_wp2_with fail
            rw [← HW0.out]
            refine (HAw.out _).mono ?_
            rintro e9 w1 ⟨rfl, hx1⟩
            have HX1 := Lib.hid (hx1)
            clear hx1
            have a0 := (HB0.out _ HX1.out).cell 0
            have al := (HB0.out _ HX1.out).lt
            go_wp2_with fail
            clear a0 al
            refine (HFw.out _ (HX0.out.trans HX1.out)).mono ?_
            rintro e9 w2 ⟨rfl, hx2⟩
            have HX2 := Lib.hid (HX1.out.trans hx2)
            clear hx2
            have a0 := (HB0.out _ HX2.out).cell 0
            have al := (HB0.out _ HX2.out).lt
            go_wp2_with fail
            clear a0 al
            refine (HSh.out _ (HX0.out.trans HX2.out)).mono ?_
            rintro e9 w3 ⟨rfl, hx3⟩
            have HX3 := Lib.hid (HX2.out.trans hx3)
            clear hx3
            have a0 := (HB0.out _ HX3.out).cell 0
            have al := (HB0.out _ HX3.out).lt
            go_wp2_with fail
            clear a0 al
            refine (HV.out _ (HX0.out.trans HX3.out)).mono ?_
            rintro e9 w4 ⟨rfl, hx4⟩
            have HX4 := Lib.hid (HX3.out.trans hx4)
            clear hx4
            have a0 := (HB0.out _ HX4.out).cell 0
            have al := (HB0.out _ HX4.out).lt
            go_wp2_with fail
            clear a0 al
            refine (HAny.out _ HX4.out).mono ?_
            rintro e9 w5 ⟨rfl, hx5⟩
            have HX5 := Lib.hid (HX4.out.trans hx5)
            clear hx5
            rw [hbd]
            have a0 := (HB0.out _ HX5.out).cell 0
            have al := (HB0.out _ HX5.out).lt
            go_wp2_with fail
            clear a0 al
            refine (HA1.out _ (HX0.out.trans HX5.out)).mono ?_
            rintro e9 w6 ⟨aA, ak, a, rfl, ht6, hl6, hr6, hx6⟩
            have HX6 := Lib.hid (HX5.out.trans hx6)
            have HR6 : Hid (∀ w', Ex w6 w' → Row w' aA (intsV a)) := fun w' h => hr6.ex h
            obtain ⟨hli, hco⟩ := HTop.out a ht6
            have HT6 := Lib.hid ht6
            have HL6 := Lib.hid hl6
            clear hx6 hr6 ht6 hl6
            have a0 := (HB0.out _ HX6.out).cell 0
            have al := (HB0.out _ HX6.out).lt
            go_wp2_with fail
            refine (HCo.out a aA ak l.length _ (HX0.out.trans HX6.out) (HL6.out.trans HLt.out) HL6.out (HR6.out _ (Ex.refl _)) hco).mono ?_
            rintro e9 w7 ⟨rfl, hx7⟩
            have HX7 := Lib.hid (HX6.out.trans hx7)
            have HY7 := Lib.hid hx7
            clear hx7 a0 al
            have a0 := (HB0.out _ HX7.out).cell 0
            have al := (HB0.out _ HX7.out).lt
            go_wp2_with fail
            refine (HLi.out a aA ak l.length _ (HX0.out.trans HX7.out) (HR6.out _ HY7.out) HL6.out hll).mono ?_
            rintro e9 w8 ⟨rfl, hx8⟩
            rw [hli]
            have HX8 := Lib.hid (HX7.out.trans hx8)
            have HY8 := Lib.hid (HY7.out.trans hx8)
            clear hx8 hli hco a0 al
            have a0 := (HB0.out _ HX8.out).cell 0
            have al := (HB0.out _ HX8.out).lt
            go_wp2_with fail
            refine (HLi.out G GA gc G.length _ (HX0.out.trans HX8.out) (HGr.out _ (HX0.out.trans HX8.out)) rfl (by omega)).mono ?_
            rintro e9 w9 ⟨rfl, hx9⟩
            rw [hlb]
            have HX9 := Lib.hid (HX8.out.trans hx9)
            have HY9 := Lib.hid (HY8.out.trans hx9)
            clear hx9 a0 al
            have a0 := (HB0.out _ HX9.out).cell 0
            have al := (HB0.out _ HX9.out).lt
            go_wp2_with fail
            have HGl2 := Lib.hid (HLl.out G hlb)
            have HLq1 : Hid (Calls Try.prog 37 #[.slice GA G.length gc, .slice aA l.length ak] w9 (Ret w9 (.bool true))) := by
              have h := HLq.out G a GA aA gc ak G.length w9 (HGr.out _ (HX0.out.trans HX9.out)) (HR6.out _ HY9.out) rfl (HL6.out.trans HGl2.out.symm) (HGe.out a G HT6.out hlb) (by omega)
              rw [← HGl2.out]
              exact Lib.hid h
            refine (HLq1.out).mono ?_
            rintro e9 w10 ⟨rfl, hx10⟩
            have HX10 := Lib.hid (HX9.out.trans hx10)
            have HY10 := Lib.hid (HY9.out.trans hx10)
            clear hx10 a0 al HLq1 HGl2
            have a0 := (HB0.out _ HX10.out).cell 0
            have al := (HB0.out _ HX10.out).lt
            go_wp2_with fail
            clear a0 al
            have a0 := (HB0.out _ HX10.out).cell 0
            have al := (HB0.out _ HX10.out).lt
            cases hcb : conB t G with
            | false =>
              refine (HRc.out _ (HX0.out.trans HX10.out)).mono ?_
              rintro e9 w11 ⟨rfl, hx11⟩
              rw [hcb]
              have HX11 := Lib.hid (HX10.out.trans hx11)
              clear hx11 a0 al
              go_wp2_with fail
              go_ret
              exact Ret.mk rfl (HX0.out.trans HX11.out)
            | true =>
              obtain ⟨hc1, hc2, -⟩ := HCi.out G hcb
              refine (HRc.out _ (HX0.out.trans HX10.out)).mono ?_
              rintro e9 w11 ⟨rfl, hx11⟩
              rw [hcb]
              have HX11 := Lib.hid (HX10.out.trans hx11)
              have HY11 := Lib.hid (HY10.out.trans hx11)
              have HC1 := Lib.hid hc1
              have HC2 := Lib.hid hc2
              have hGl : G.length ≤ l.length := by rw [HLt.out, hc1]; exact Nat.le_refl _
              clear hx11 a0 al hc1 hc2 hcb
              go_wp2_with fail
              refine (HCl.out _ (HX0.out.trans HX11.out)).mono ?_
              rintro e9 w12 ⟨D, dk, rfl, hO12, hx12⟩
              have HX12 := Lib.hid (HX11.out.trans hx12)
              have HY12 := Lib.hid (HY11.out.trans hx12)
              have HO12 := Lib.hid (hO12.mono HY11.out.below.size)
              clear hx12 hO12
              go_wp2_with fail
              go_loopw [11, 92] (fun dv q wr => ∃ (k : Nat) (D : Option Addr) (dk : Nat) (ds : List Int), q = .int .i64 k ∧ k ≤ 200 ∧ dv = .slice D G.length dk ∧ Hid (ds.length = t.length ∧ rngP t ds ∧ OwnO wr w6.heap.size 3 1 (.slice D G.length dk) G.length (intsV ds) ∧ Ex w6 wr)) (fun _ q _ => 200 - (intOf q).toNat)
              case atStart => exact ⟨0, D, dk, G, rfl, by omega, rfl, Lib.hid ⟨HC1.out, HC2.out, HO12.out, HY12.out⟩⟩
              case round =>
                clear HO12
                obtain ⟨k, D, dk, ds, rfl, hk, rfl, HI⟩ := hrel
                by_cases hk2 : k < 200
                · have kk0 : decide ((k : Int) < 200) = true := decide_eq_true (by omega)
                  go_wp2_with fail
                  go_loopw [96] (fun q wr => ∃ (p : Nat) (ds' : List Int), q = .int .i64 p ∧ p ≤ G.length ∧ Hid (ds'.length = t.length ∧ rngP t ds' ∧ (∀ (p' : Nat) (r : List Int) (a : Int), p' < p → l[p']? = some r → ds'[p']? = some a → a ∈ (if (p' : Int) ∈ F then stored r else r)) ∧ OwnO wr w6.heap.size 3 1 (.slice D G.length dk) G.length (intsV ds') ∧ Ex w6 wr)) (fun q _ => G.length - (intOf q).toNat)
                  case atStart => exact ⟨0, ds, rfl, Nat.zero_le _, Lib.hid ⟨HI.out.1, HI.out.2.1, fun p' r a h => absurd h (Nat.not_lt_zero _), HI.out.2.2.1, HI.out.2.2.2⟩⟩
                  case round =>
                    obtain ⟨p, ds', rfl, hp, HH⟩ := hrel
                    by_cases hpl : p < G.length
                    · have m0 : (0 : Int) ≤ (p : Int) := by omega
                      have m1 : (p : Int) < (G.length : Int) := by omega
                      have m2 : (p : Int) < (l.length : Int) := by omega
                      have hdl : ds'.length = G.length := HH.out.1.trans HC1.out.symm
                      obtain ⟨a', ha⟩ := get_at (show p < ds'.length by omega)
                      obtain ⟨r, hr⟩ := get_at (show p < l.length by omega)
                      have har := HH.out.2.1 p a' ha
                      have hrl := HRl.out p r hr
                      have hrp := asc_pos (HAsc.out p r hr)
                      obtain ⟨g, og, capd, he, -, -, hgb, hgl, hcs⟩ := HH.out.2.2.2.1.open_ (by omega)
                      cases he
                      have d0' := hcs p _ (intsV_get ha)
                      have hXw := HX0.out.trans (HX6.out.trans HH.out.2.2.2.2)
                      obtain ⟨bb, oo, hBB, hbb, A7, c7, r0, hc7, hrow⟩ := HL.out _ hXw p r hr
                      subst hBB
                      have HRw : Hid (∀ w', Ex wr w' → Row w' A7 (intsV r)) := fun w' h => hrow.ex h
                      have HD : Hid (∀ w', Ex wr w' → w'.cell? ⟨g, og + p, none⟩ = some (.int .i64 a') ∧ g < w'.heap.size) := fun w' h => ⟨(h.below.cell hgl).trans d0', Nat.lt_of_lt_of_le hgl h.below.size⟩
                      have HSt := Lib.hid (fun w' => rStored_c r A7 c7 w' (fun h => by rw [h] at hrp; exact absurd hrp (Nat.lt_irrefl _)) hc7 hrl)
                      have HRa := Lib.hid (And.intro hr ha)
                      have HXw := Lib.hid hXw
                      clear hcs hr ha hrow hXw hgl d0'
                      go_wp2_with fail
                      refine (HCt.out _ (p : Int) HXw.out).mono ?_
                      rintro e9 w13 ⟨rfl, hx13⟩
                      have HZ := Lib.hid hx13
                      clear hx13 r0 hbb
                      by_cases h2 : (p : Int) ∈ F
                      · have s2 : decide ((p : Int) ∈ F) = true := decide_eq_true h2
                        rw [s2]
                        go_wp2_with fail
                        refine (HSt.out _).mono ?_
                        rintro e9 w13' ⟨rfl, hx13'⟩
                        have HZ := Lib.hid (HZ.out.trans hx13')
                        clear hx13'
                        have hasc : Asc (stored r) := asc_stored (HAsc.out p r HRa.out.1)
                        have hG := grt_isG hasc har.1
                        have hsa := search_at hasc har.1
                        have HSr := Lib.hid (search_c (stored r) A7 c7 a' w13' (row_stored (HRw.out _ HZ.out)) hasc (by unfold stored; rw [List.length_take]; omega))
                        have HNx : Hid (∀ v, v ∈ (stored r) → ∀ (p' : Nat) (r : List Int) (a : Int), p' < p + 1 → l[p']? = some r → (ds'.set p v)[p']? = some a → a ∈ (if (p' : Int) ∈ F then stored r else r)) := fun v hv' p' r' a'' hlt hr' ha' => by
                          rw [List.getElem?_set] at ha'
                          by_cases he : p = p'
                          · subst he
                            rw [if_pos rfl, if_pos (by omega)] at ha'
                            rw [HRa.out.1] at hr'
                            cases hr'
                            cases ha'
                            rw [if_pos h2]
                            exact hv'
                          · rw [if_neg he] at ha'
                            exact HH.out.2.2.1 p' r' a'' (by omega) hr' ha'
                        have HSetE : Hid (ds'.set p a' = ds') := by
                          apply List.ext_getElem?
                          intro j
                          rw [List.getElem?_set]
                          by_cases he : p = j
                          · subst he; rw [if_pos rfl, if_pos (by omega), HRa.out.2]
                          · rw [if_neg he]
                        obtain ⟨d0, hbc⟩ := HD.out _ HZ.out
                        generalize grt (stored r) a' = gv at *
                        generalize hcnt : (stored r).countP (· < a') = ci at *
                        go_wp2_with fail
                        refine (HSr.out).mono ?_
                        rintro e9 w14 ⟨rfl, hx14⟩
                        have HZ2 := Lib.hid (HZ.out.trans hx14)
                        clear hx14 d0 hbc hcnt
                        rcases hsa with ⟨hi0, ⟨h3, h4, h5⟩ | ⟨h3, h4, h5⟩⟩
                        · rw [h3]
                          have HN := Lib.hid (HNx.out a' h5.1)
                          rw [HSetE.out] at HN
                          clear h3 h4 h5 hi0 hG h2 hasc
                          go_wp2_with fail
                          refine ⟨⟨p + 1, ds', by go_num, by omega, Lib.hid ⟨HH.out.1, HH.out.2.1, HN.out, HH.out.2.2.2.1.ex HZ2.out, HH.out.2.2.2.2.trans HZ2.out⟩⟩, by simp [intOf]; omega⟩
                        · rw [h3]
                          obtain ⟨bd, od, hA7, hbd', hcd⟩ := row_at (row_stored (HRw.out _ HZ2.out)) (fun h => by rw [h] at h5; simp at h5)
                          subst hA7
                          have k0 := hcd _ gv h5
                          have hrl2 : (stored r).length ≤ 100000 := by unfold stored; rw [List.length_take]; omega
                          have i0 : (0 : Int) ≤ ((ci - 1 : Nat) : Int) := by omega
                          have i1 : ((ci - 1 : Nat) : Int) < (((stored r).length : Nat) : Int) := by have := (List.getElem?_eq_some_iff.1 h5).1; omega
                          have wi : IntKind.i64.wrap ((ci : Int) - 1) = ((ci - 1 : Nat) : Int) := by rw [IntWalk.i64_in _ (by omega)]; omega
                          have HN := Lib.hid (HNx.out gv hG.1)
                          have HRg := Lib.hid (rng_set HH.out.2.1 HRa.out.2 (asc_nonneg hasc hG.1) hG.2.1)
                          obtain ⟨d0, hbc⟩ := HD.out _ HZ2.out
                          have f0 := (HH.out.2.2.2.1.ex HZ2.out).frozen (og + p)
                          clear h3 h4 h5 hi0 hG hcd h2 hasc
                          go_wp2_with fail
                          refine ⟨⟨p + 1, ds'.set p gv, by go_num, by omega, Lib.hid ⟨by rw [List.length_set]; exact HH.out.1, HRg.out, HN.out, by rw [← intsV_set]; exact (HH.out.2.2.2.1.ex HZ2.out).put p _, (HH.out.2.2.2.2.trans HZ2.out).setCell (p := ⟨g, og + p, none⟩) hgb _⟩⟩, by simp [intOf]; omega⟩
                      · have s2 : decide ((p : Int) ∈ F) = false := decide_eq_false h2
                        rw [s2]
                        have hasc : Asc (r) := HAsc.out p r HRa.out.1
                        have hG := grt_isG hasc har.1
                        have hsa := search_at hasc har.1
                        have HSr := Lib.hid (search_c (r) A7 c7 a' w13 (HRw.out _ HZ.out) hasc (by omega))
                        have HNx : Hid (∀ v, v ∈ (r) → ∀ (p' : Nat) (r : List Int) (a : Int), p' < p + 1 → l[p']? = some r → (ds'.set p v)[p']? = some a → a ∈ (if (p' : Int) ∈ F then stored r else r)) := fun v hv' p' r' a'' hlt hr' ha' => by
                          rw [List.getElem?_set] at ha'
                          by_cases he : p = p'
                          · subst he
                            rw [if_pos rfl, if_pos (by omega)] at ha'
                            rw [HRa.out.1] at hr'
                            cases hr'
                            cases ha'
                            rw [if_neg h2]
                            exact hv'
                          · rw [if_neg he] at ha'
                            exact HH.out.2.2.1 p' r' a'' (by omega) hr' ha'
                        have HSetE : Hid (ds'.set p a' = ds') := by
                          apply List.ext_getElem?
                          intro j
                          rw [List.getElem?_set]
                          by_cases he : p = j
                          · subst he; rw [if_pos rfl, if_pos (by omega), HRa.out.2]
                          · rw [if_neg he]
                        obtain ⟨d0, hbc⟩ := HD.out _ HZ.out
                        generalize grt (r) a' = gv at *
                        generalize hcnt : (r).countP (· < a') = ci at *
                        go_wp2_with fail
                        refine (HSr.out).mono ?_
                        rintro e9 w14 ⟨rfl, hx14⟩
                        have HZ2 := Lib.hid (HZ.out.trans hx14)
                        clear hx14 d0 hbc hcnt
                        rcases hsa with ⟨hi0, ⟨h3, h4, h5⟩ | ⟨h3, h4, h5⟩⟩
                        · rw [h3]
                          have HN := Lib.hid (HNx.out a' h5.1)
                          rw [HSetE.out] at HN
                          clear h3 h4 h5 hi0 hG h2 hasc
                          go_wp2_with fail
                          refine ⟨⟨p + 1, ds', by go_num, by omega, Lib.hid ⟨HH.out.1, HH.out.2.1, HN.out, HH.out.2.2.2.1.ex HZ2.out, HH.out.2.2.2.2.trans HZ2.out⟩⟩, by simp [intOf]; omega⟩
                        · rw [h3]
                          obtain ⟨bd, od, hA7, hbd', hcd⟩ := row_at (HRw.out _ HZ2.out) (fun h => by rw [h] at h5; simp at h5)
                          subst hA7
                          have k0 := hcd _ gv h5
                          have hrl2 : r.length ≤ 100000 := by omega
                          have i0 : (0 : Int) ≤ ((ci - 1 : Nat) : Int) := by omega
                          have i1 : ((ci - 1 : Nat) : Int) < ((r.length : Nat) : Int) := by have := (List.getElem?_eq_some_iff.1 h5).1; omega
                          have wi : IntKind.i64.wrap ((ci : Int) - 1) = ((ci - 1 : Nat) : Int) := by rw [IntWalk.i64_in _ (by omega)]; omega
                          have HN := Lib.hid (HNx.out gv hG.1)
                          have HRg := Lib.hid (rng_set HH.out.2.1 HRa.out.2 (asc_nonneg hasc hG.1) hG.2.1)
                          obtain ⟨d0, hbc⟩ := HD.out _ HZ2.out
                          have f0 := (HH.out.2.2.2.1.ex HZ2.out).frozen (og + p)
                          clear h3 h4 h5 hi0 hG hcd h2 hasc
                          go_wp2_with fail
                          refine ⟨⟨p + 1, ds'.set p gv, by go_num, by omega, Lib.hid ⟨by rw [List.length_set]; exact HH.out.1, HRg.out, HN.out, by rw [← intsV_set]; exact (HH.out.2.2.2.1.ex HZ2.out).put p _, (HH.out.2.2.2.2.trans HZ2.out).setCell (p := ⟨g, og + p, none⟩) hgb _⟩⟩, by simp [intOf]; omega⟩
                    · obtain rfl : p = G.length := by omega
                      have s1 : decide ((G.length : Int) < (G.length : Int)) = false := decide_eq_false (by omega)
                      have a0 := (HB0.out _ (HX6.out.trans HH.out.2.2.2.2)).cell 0
                      have al := (HB0.out _ (HX6.out.trans HH.out.2.2.2.2)).lt
                      have HOp1 := Lib.hid (HOp.out ds' D dk G.length _ (HX0.out.trans (HX6.out.trans HH.out.2.2.2.2)) HH.out.1 (HH.out.1.trans HC1.out.symm) HH.out.2.1 HH.out.2.2.2.1.row)
                      go_wp2_with fail
                      refine (HOp1.out).mono ?_
                      rintro e9 w15 ⟨D2, k2, os, rfl, ho1, ho2, ho3, ho4, hx15⟩
                      have HO5 := Lib.hid (And.intro ho1 (And.intro ho2 ho3))
                      have HO6 := Lib.hid (ho4.mono HH.out.2.2.2.2.below.size)
                      have HX15 := Lib.hid (HH.out.2.2.2.2.trans hx15)
                      have HOd := Lib.hid (HH.out.2.2.2.1.ex hx15)
                      have HEq1 := Lib.hid (HEq.out os ds' D2 D k2 dk G.length w15 HO6.out.row HOd.out.row (ho1.trans HC1.out.symm) (HH.out.1.trans HC1.out.symm) (by omega))
                      clear a0 al ho1 ho2 ho3 ho4 hx15 HOp1
                      go_wp2_with fail
                      refine (HEq1.out).mono ?_
                      rintro e9 w16 ⟨rfl, hx16⟩
                      have HX16 := Lib.hid (HX15.out.trans hx16)
                      by_cases heq : os = ds'
                      · have s3 : decide (os = ds') = true := decide_eq_true heq
                        rw [s3]
                        have hlin := HLo.out ds' HH.out.1 HH.out.2.1 (by rw [← heq]; exact HO5.out.2.2) (fun p r a hp => HH.out.2.2.1 p r a (by rw [HC1.out, ← HH.out.1]; exact hp))
                        have HLi1 := Lib.hid (HLi.out ds' D dk G.length w16 (HX0.out.trans (HX6.out.trans HX16.out)) (HOd.out.ex hx16).row (HH.out.1.trans HC1.out.symm) (by omega))
                        rw [hlin] at HLi1
                        have HGe1 := Lib.hid (HGe.out a ds' HT6.out hlin)
                        have a0 := (HB0.out _ (HX6.out.trans HX16.out)).cell 0
                        have al := (HB0.out _ (HX6.out.trans HX16.out)).lt
                        have HRd := Lib.hid (fun w' (h : Ex w16 w') => (HOd.out.ex (hx16.trans h)).row)
                        have HGl2 : Hid (G.length = l.length) := by show G.length = l.length; rw [HLt.out, HC1.out]
                        have hLq := fun w' (h : Ex w16 w') => HLq.out ds' a D aA dk ak G.length w' (HRd.out w' h) (HR6.out w' (HX16.out.trans h)) (HH.out.1.trans HC1.out.symm) (HL6.out.trans HGl2.out.symm) HGe1.out (by omega)
                        have HLq1 : Hid (∀ w', Ex w16 w' → Calls Try.prog 37 #[.slice D G.length dk, .slice aA l.length ak] w' (Ret w' (.bool true))) := by
                          rw [← HGl2.out]
                          exact Lib.hid hLq
                        clear hLq hlin hx16 heq
                        go_wp2_with fail
                        refine (HLi1.out).mono ?_
                        rintro e9 w17 ⟨rfl, hx17⟩
                        have HX17 := Lib.hid hx17
                        clear hx17 a0 al
                        go_wp2_with fail
                        refine (HLq1.out _ HX17.out).mono ?_
                        rintro e9 w18 ⟨rfl, hx18⟩
                        go_wp2_with fail
                        go_ret
                        exact Ret.mk rfl (HX0.out.trans (HX6.out.trans (HX16.out.trans (HX17.out.trans hx18))))
                      · have s3 : decide (os = ds') = false := decide_eq_false heq
                        rw [s3]
                        have HO7 := Lib.hid (HO6.out.ex hx16)
                        clear heq hx16
                        go_wp2_with fail
                        refine ⟨⟨k + 1, D2, k2, os, by go_num, by omega, rfl, Lib.hid ⟨HO5.out.1, HO5.out.2.1, HO7.out, HX16.out⟩⟩, by simp [intOf]; omega⟩
                · obtain rfl : k = 200 := by omega
                  go_wp2_with fail
                  go_ret
                  exact Ret.mk rfl (HX0.out.trans (HX6.out.trans HI.out.2.2.2))
          | false =>
            go_enter Try.func9, Try.ntmps9
            go_wp2_with fail
            rw [← HW0.out]
            refine (HAw.out _).mono ?_
            rintro e9 w1 ⟨rfl, hx1⟩
            have HX1 := Lib.hid (hx1)
            clear hx1
            have a0 := (HB0.out _ HX1.out).cell 0
            have al := (HB0.out _ HX1.out).lt
            go_wp2_with fail
            clear a0 al
            refine (HFw.out _ (HX0.out.trans HX1.out)).mono ?_
            rintro e9 w2 ⟨rfl, hx2⟩
            have HX2 := Lib.hid (HX1.out.trans hx2)
            clear hx2
            have a0 := (HB0.out _ HX2.out).cell 0
            have al := (HB0.out _ HX2.out).lt
            go_wp2_with fail
            clear a0 al
            refine (HSh.out _ (HX0.out.trans HX2.out)).mono ?_
            rintro e9 w3 ⟨rfl, hx3⟩
            have HX3 := Lib.hid (HX2.out.trans hx3)
            clear hx3
            have a0 := (HB0.out _ HX3.out).cell 0
            have al := (HB0.out _ HX3.out).lt
            go_wp2_with fail
            clear a0 al
            refine (HV.out _ (HX0.out.trans HX3.out)).mono ?_
            rintro e9 w4 ⟨rfl, hx4⟩
            have HX4 := Lib.hid (HX3.out.trans hx4)
            clear hx4
            have a0 := (HB0.out _ HX4.out).cell 0
            have al := (HB0.out _ HX4.out).lt
            go_wp2_with fail
            clear a0 al
            refine (HAny.out _ HX4.out).mono ?_
            rintro e9 w5 ⟨rfl, hx5⟩
            have HX5 := Lib.hid (HX4.out.trans hx5)
            clear hx5
            rw [hbd]
            have a0 := (HB0.out _ HX5.out).cell 0
            have al := (HB0.out _ HX5.out).lt
            go_wp2_with fail
            clear a0 al
            refine (HA1.out _ (HX0.out.trans HX5.out)).mono ?_
            rintro e9 w6 ⟨aA, ak, a, rfl, ht6, hl6, hr6, hx6⟩
            have HX6 := Lib.hid (HX5.out.trans hx6)
            have HR6 : Hid (∀ w', Ex w6 w' → Row w' aA (intsV a)) := fun w' h => hr6.ex h
            obtain ⟨hli, hco⟩ := HTop.out a ht6
            have HT6 := Lib.hid ht6
            have HL6 := Lib.hid hl6
            clear hx6 hr6 ht6 hl6
            have a0 := (HB0.out _ HX6.out).cell 0
            have al := (HB0.out _ HX6.out).lt
            go_wp2_with fail
            refine (HCo.out a aA ak l.length _ (HX0.out.trans HX6.out) (HL6.out.trans HLt.out) HL6.out (HR6.out _ (Ex.refl _)) hco).mono ?_
            rintro e9 w7 ⟨rfl, hx7⟩
            have HX7 := Lib.hid (HX6.out.trans hx7)
            have HY7 := Lib.hid hx7
            clear hx7 a0 al
            have a0 := (HB0.out _ HX7.out).cell 0
            have al := (HB0.out _ HX7.out).lt
            go_wp2_with fail
            refine (HLi.out a aA ak l.length _ (HX0.out.trans HX7.out) (HR6.out _ HY7.out) HL6.out hll).mono ?_
            rintro e9 w8 ⟨rfl, hx8⟩
            rw [hli]
            have HX8 := Lib.hid (HX7.out.trans hx8)
            have HY8 := Lib.hid (HY7.out.trans hx8)
            clear hx8 hli hco a0 al
            have a0 := (HB0.out _ HX8.out).cell 0
            have al := (HB0.out _ HX8.out).lt
            go_wp2_with fail
            refine (HLi.out G GA gc G.length _ (HX0.out.trans HX8.out) (HGr.out _ (HX0.out.trans HX8.out)) rfl (by omega)).mono ?_
            rintro e9 w9 ⟨rfl, hx9⟩
            rw [hlb]
            have HX9 := Lib.hid (HX8.out.trans hx9)
            have HY9 := Lib.hid (HY8.out.trans hx9)
            clear hx9 a0 al
            have a0 := (HB0.out _ HX9.out).cell 0
            have al := (HB0.out _ HX9.out).lt
            go_wp2_with fail
            clear a0 al
            have a0 := (HB0.out _ HX9.out).cell 0
            have al := (HB0.out _ HX9.out).lt
            cases hcb : conB t G with
            | false =>
              refine (HRc.out _ (HX0.out.trans HX9.out)).mono ?_
              rintro e9 w11 ⟨rfl, hx11⟩
              rw [hcb]
              have HX11 := Lib.hid (HX9.out.trans hx11)
              clear hx11 a0 al
              go_wp2_with fail
              go_ret
              exact Ret.mk rfl (HX0.out.trans HX11.out)
            | true =>
              obtain ⟨hc1, hc2, -⟩ := HCi.out G hcb
              refine (HRc.out _ (HX0.out.trans HX9.out)).mono ?_
              rintro e9 w11 ⟨rfl, hx11⟩
              rw [hcb]
              have HX11 := Lib.hid (HX9.out.trans hx11)
              have HY11 := Lib.hid (HY9.out.trans hx11)
              have HC1 := Lib.hid hc1
              have HC2 := Lib.hid hc2
              have hGl : G.length ≤ l.length := by rw [HLt.out, hc1]; exact Nat.le_refl _
              clear hx11 a0 al hc1 hc2 hcb
              go_wp2_with fail
              refine (HCl.out _ (HX0.out.trans HX11.out)).mono ?_
              rintro e9 w12 ⟨D, dk, rfl, hO12, hx12⟩
              have HX12 := Lib.hid (HX11.out.trans hx12)
              have HY12 := Lib.hid (HY11.out.trans hx12)
              have HO12 := Lib.hid (hO12.mono HY11.out.below.size)
              clear hx12 hO12
              go_wp2_with fail
              go_loopw [11, 92] (fun dv q wr => ∃ (k : Nat) (D : Option Addr) (dk : Nat) (ds : List Int), q = .int .i64 k ∧ k ≤ 200 ∧ dv = .slice D G.length dk ∧ Hid (ds.length = t.length ∧ rngP t ds ∧ OwnO wr w6.heap.size 3 1 (.slice D G.length dk) G.length (intsV ds) ∧ Ex w6 wr)) (fun _ q _ => 200 - (intOf q).toNat)
              case atStart => exact ⟨0, D, dk, G, rfl, by omega, rfl, Lib.hid ⟨HC1.out, HC2.out, HO12.out, HY12.out⟩⟩
              case round =>
                clear HO12
                obtain ⟨k, D, dk, ds, rfl, hk, rfl, HI⟩ := hrel
                by_cases hk2 : k < 200
                · have kk0 : decide ((k : Int) < 200) = true := decide_eq_true (by omega)
                  go_wp2_with fail
                  go_loopw [96] (fun q wr => ∃ (p : Nat) (ds' : List Int), q = .int .i64 p ∧ p ≤ G.length ∧ Hid (ds'.length = t.length ∧ rngP t ds' ∧ (∀ (p' : Nat) (r : List Int) (a : Int), p' < p → l[p']? = some r → ds'[p']? = some a → a ∈ (if (p' : Int) ∈ F then stored r else r)) ∧ OwnO wr w6.heap.size 3 1 (.slice D G.length dk) G.length (intsV ds') ∧ Ex w6 wr)) (fun q _ => G.length - (intOf q).toNat)
                  case atStart => exact ⟨0, ds, rfl, Nat.zero_le _, Lib.hid ⟨HI.out.1, HI.out.2.1, fun p' r a h => absurd h (Nat.not_lt_zero _), HI.out.2.2.1, HI.out.2.2.2⟩⟩
                  case round =>
                    obtain ⟨p, ds', rfl, hp, HH⟩ := hrel
                    by_cases hpl : p < G.length
                    · have m0 : (0 : Int) ≤ (p : Int) := by omega
                      have m1 : (p : Int) < (G.length : Int) := by omega
                      have m2 : (p : Int) < (l.length : Int) := by omega
                      have hdl : ds'.length = G.length := HH.out.1.trans HC1.out.symm
                      obtain ⟨a', ha⟩ := get_at (show p < ds'.length by omega)
                      obtain ⟨r, hr⟩ := get_at (show p < l.length by omega)
                      have har := HH.out.2.1 p a' ha
                      have hrl := HRl.out p r hr
                      have hrp := asc_pos (HAsc.out p r hr)
                      obtain ⟨g, og, capd, he, -, -, hgb, hgl, hcs⟩ := HH.out.2.2.2.1.open_ (by omega)
                      cases he
                      have d0' := hcs p _ (intsV_get ha)
                      have hXw := HX0.out.trans (HX6.out.trans HH.out.2.2.2.2)
                      obtain ⟨bb, oo, hBB, hbb, A7, c7, r0, hc7, hrow⟩ := HL.out _ hXw p r hr
                      subst hBB
                      have HRw : Hid (∀ w', Ex wr w' → Row w' A7 (intsV r)) := fun w' h => hrow.ex h
                      have HD : Hid (∀ w', Ex wr w' → w'.cell? ⟨g, og + p, none⟩ = some (.int .i64 a') ∧ g < w'.heap.size) := fun w' h => ⟨(h.below.cell hgl).trans d0', Nat.lt_of_lt_of_le hgl h.below.size⟩
                      have HSt := Lib.hid (fun w' => rStored_c r A7 c7 w' (fun h => by rw [h] at hrp; exact absurd hrp (Nat.lt_irrefl _)) hc7 hrl)
                      have HRa := Lib.hid (And.intro hr ha)
                      have HXw := Lib.hid hXw
                      clear hcs hr ha hrow hXw hgl d0'
                      go_wp2_with fail
                      refine (HCt.out _ (p : Int) HXw.out).mono ?_
                      rintro e9 w13 ⟨rfl, hx13⟩
                      have HZ := Lib.hid hx13
                      clear hx13 r0 hbb
                      by_cases h2 : (p : Int) ∈ F
                      · have s2 : decide ((p : Int) ∈ F) = true := decide_eq_true h2
                        rw [s2]
                        go_wp2_with fail
                        refine (HSt.out _).mono ?_
                        rintro e9 w13' ⟨rfl, hx13'⟩
                        have HZ := Lib.hid (HZ.out.trans hx13')
                        clear hx13'
                        have hasc : Asc (stored r) := asc_stored (HAsc.out p r HRa.out.1)
                        have hG := grt_isG hasc har.1
                        have hsa := search_at hasc har.1
                        have HSr := Lib.hid (search_c (stored r) A7 c7 a' w13' (row_stored (HRw.out _ HZ.out)) hasc (by unfold stored; rw [List.length_take]; omega))
                        have HNx : Hid (∀ v, v ∈ (stored r) → ∀ (p' : Nat) (r : List Int) (a : Int), p' < p + 1 → l[p']? = some r → (ds'.set p v)[p']? = some a → a ∈ (if (p' : Int) ∈ F then stored r else r)) := fun v hv' p' r' a'' hlt hr' ha' => by
                          rw [List.getElem?_set] at ha'
                          by_cases he : p = p'
                          · subst he
                            rw [if_pos rfl, if_pos (by omega)] at ha'
                            rw [HRa.out.1] at hr'
                            cases hr'
                            cases ha'
                            rw [if_pos h2]
                            exact hv'
                          · rw [if_neg he] at ha'
                            exact HH.out.2.2.1 p' r' a'' (by omega) hr' ha'
                        have HSetE : Hid (ds'.set p a' = ds') := by
                          apply List.ext_getElem?
                          intro j
                          rw [List.getElem?_set]
                          by_cases he : p = j
                          · subst he; rw [if_pos rfl, if_pos (by omega), HRa.out.2]
                          · rw [if_neg he]
                        obtain ⟨d0, hbc⟩ := HD.out _ HZ.out
                        generalize grt (stored r) a' = gv at *
                        generalize hcnt : (stored r).countP (· < a') = ci at *
                        go_wp2_with fail
                        refine (HSr.out).mono ?_
                        rintro e9 w14 ⟨rfl, hx14⟩
                        have HZ2 := Lib.hid (HZ.out.trans hx14)
                        clear hx14 d0 hbc hcnt
                        rcases hsa with ⟨hi0, ⟨h3, h4, h5⟩ | ⟨h3, h4, h5⟩⟩
                        · rw [h3]
                          have HN := Lib.hid (HNx.out a' h5.1)
                          rw [HSetE.out] at HN
                          clear h3 h4 h5 hi0 hG h2 hasc
                          go_wp2_with fail
                          refine ⟨⟨p + 1, ds', by go_num, by omega, Lib.hid ⟨HH.out.1, HH.out.2.1, HN.out, HH.out.2.2.2.1.ex HZ2.out, HH.out.2.2.2.2.trans HZ2.out⟩⟩, by simp [intOf]; omega⟩
                        · rw [h3]
                          obtain ⟨bd, od, hA7, hbd', hcd⟩ := row_at (row_stored (HRw.out _ HZ2.out)) (fun h => by rw [h] at h5; simp at h5)
                          subst hA7
                          have k0 := hcd _ gv h5
                          have hrl2 : (stored r).length ≤ 100000 := by unfold stored; rw [List.length_take]; omega
                          have i0 : (0 : Int) ≤ ((ci - 1 : Nat) : Int) := by omega
                          have i1 : ((ci - 1 : Nat) : Int) < (((stored r).length : Nat) : Int) := by have := (List.getElem?_eq_some_iff.1 h5).1; omega
                          have wi : IntKind.i64.wrap ((ci : Int) - 1) = ((ci - 1 : Nat) : Int) := by rw [IntWalk.i64_in _ (by omega)]; omega
                          have HN := Lib.hid (HNx.out gv hG.1)
                          have HRg := Lib.hid (rng_set HH.out.2.1 HRa.out.2 (asc_nonneg hasc hG.1) hG.2.1)
                          obtain ⟨d0, hbc⟩ := HD.out _ HZ2.out
                          have f0 := (HH.out.2.2.2.1.ex HZ2.out).frozen (og + p)
                          clear h3 h4 h5 hi0 hG hcd h2 hasc
                          go_wp2_with fail
                          refine ⟨⟨p + 1, ds'.set p gv, by go_num, by omega, Lib.hid ⟨by rw [List.length_set]; exact HH.out.1, HRg.out, HN.out, by rw [← intsV_set]; exact (HH.out.2.2.2.1.ex HZ2.out).put p _, (HH.out.2.2.2.2.trans HZ2.out).setCell (p := ⟨g, og + p, none⟩) hgb _⟩⟩, by simp [intOf]; omega⟩
                      · have s2 : decide ((p : Int) ∈ F) = false := decide_eq_false h2
                        rw [s2]
                        have hasc : Asc (r) := HAsc.out p r HRa.out.1
                        have hG := grt_isG hasc har.1
                        have hsa := search_at hasc har.1
                        have HSr := Lib.hid (search_c (r) A7 c7 a' w13 (HRw.out _ HZ.out) hasc (by omega))
                        have HNx : Hid (∀ v, v ∈ (r) → ∀ (p' : Nat) (r : List Int) (a : Int), p' < p + 1 → l[p']? = some r → (ds'.set p v)[p']? = some a → a ∈ (if (p' : Int) ∈ F then stored r else r)) := fun v hv' p' r' a'' hlt hr' ha' => by
                          rw [List.getElem?_set] at ha'
                          by_cases he : p = p'
                          · subst he
                            rw [if_pos rfl, if_pos (by omega)] at ha'
                            rw [HRa.out.1] at hr'
                            cases hr'
                            cases ha'
                            rw [if_neg h2]
                            exact hv'
                          · rw [if_neg he] at ha'
                            exact HH.out.2.2.1 p' r' a'' (by omega) hr' ha'
                        have HSetE : Hid (ds'.set p a' = ds') := by
                          apply List.ext_getElem?
                          intro j
                          rw [List.getElem?_set]
                          by_cases he : p = j
                          · subst he; rw [if_pos rfl, if_pos (by omega), HRa.out.2]
                          · rw [if_neg he]
                        obtain ⟨d0, hbc⟩ := HD.out _ HZ.out
                        generalize grt (r) a' = gv at *
                        generalize hcnt : (r).countP (· < a') = ci at *
                        go_wp2_with fail
                        refine (HSr.out).mono ?_
                        rintro e9 w14 ⟨rfl, hx14⟩
                        have HZ2 := Lib.hid (HZ.out.trans hx14)
                        clear hx14 d0 hbc hcnt
                        rcases hsa with ⟨hi0, ⟨h3, h4, h5⟩ | ⟨h3, h4, h5⟩⟩
                        · rw [h3]
                          have HN := Lib.hid (HNx.out a' h5.1)
                          rw [HSetE.out] at HN
                          clear h3 h4 h5 hi0 hG h2 hasc
                          go_wp2_with fail
                          refine ⟨⟨p + 1, ds', by go_num, by omega, Lib.hid ⟨HH.out.1, HH.out.2.1, HN.out, HH.out.2.2.2.1.ex HZ2.out, HH.out.2.2.2.2.trans HZ2.out⟩⟩, by simp [intOf]; omega⟩
                        · rw [h3]
                          obtain ⟨bd, od, hA7, hbd', hcd⟩ := row_at (HRw.out _ HZ2.out) (fun h => by rw [h] at h5; simp at h5)
                          subst hA7
                          have k0 := hcd _ gv h5
                          have hrl2 : r.length ≤ 100000 := by omega
                          have i0 : (0 : Int) ≤ ((ci - 1 : Nat) : Int) := by omega
                          have i1 : ((ci - 1 : Nat) : Int) < ((r.length : Nat) : Int) := by have := (List.getElem?_eq_some_iff.1 h5).1; omega
                          have wi : IntKind.i64.wrap ((ci : Int) - 1) = ((ci - 1 : Nat) : Int) := by rw [IntWalk.i64_in _ (by omega)]; omega
                          have HN := Lib.hid (HNx.out gv hG.1)
                          have HRg := Lib.hid (rng_set HH.out.2.1 HRa.out.2 (asc_nonneg hasc hG.1) hG.2.1)
                          obtain ⟨d0, hbc⟩ := HD.out _ HZ2.out
                          have f0 := (HH.out.2.2.2.1.ex HZ2.out).frozen (og + p)
                          clear h3 h4 h5 hi0 hG hcd h2 hasc
                          go_wp2_with fail
                          refine ⟨⟨p + 1, ds'.set p gv, by go_num, by omega, Lib.hid ⟨by rw [List.length_set]; exact HH.out.1, HRg.out, HN.out, by rw [← intsV_set]; exact (HH.out.2.2.2.1.ex HZ2.out).put p _, (HH.out.2.2.2.2.trans HZ2.out).setCell (p := ⟨g, og + p, none⟩) hgb _⟩⟩, by simp [intOf]; omega⟩
                    · obtain rfl : p = G.length := by omega
                      have s1 : decide ((G.length : Int) < (G.length : Int)) = false := decide_eq_false (by omega)
                      have a0 := (HB0.out _ (HX6.out.trans HH.out.2.2.2.2)).cell 0
                      have al := (HB0.out _ (HX6.out.trans HH.out.2.2.2.2)).lt
                      have HOp1 := Lib.hid (HOp.out ds' D dk G.length _ (HX0.out.trans (HX6.out.trans HH.out.2.2.2.2)) HH.out.1 (HH.out.1.trans HC1.out.symm) HH.out.2.1 HH.out.2.2.2.1.row)
                      go_wp2_with fail
                      refine (HOp1.out).mono ?_
                      rintro e9 w15 ⟨D2, k2, os, rfl, ho1, ho2, ho3, ho4, hx15⟩
                      have HO5 := Lib.hid (And.intro ho1 (And.intro ho2 ho3))
                      have HO6 := Lib.hid (ho4.mono HH.out.2.2.2.2.below.size)
                      have HX15 := Lib.hid (HH.out.2.2.2.2.trans hx15)
                      have HOd := Lib.hid (HH.out.2.2.2.1.ex hx15)
                      have HEq1 := Lib.hid (HEq.out os ds' D2 D k2 dk G.length w15 HO6.out.row HOd.out.row (ho1.trans HC1.out.symm) (HH.out.1.trans HC1.out.symm) (by omega))
                      clear a0 al ho1 ho2 ho3 ho4 hx15 HOp1
                      go_wp2_with fail
                      refine (HEq1.out).mono ?_
                      rintro e9 w16 ⟨rfl, hx16⟩
                      have HX16 := Lib.hid (HX15.out.trans hx16)
                      by_cases heq : os = ds'
                      · have s3 : decide (os = ds') = true := decide_eq_true heq
                        rw [s3]
                        have hlin := HLo.out ds' HH.out.1 HH.out.2.1 (by rw [← heq]; exact HO5.out.2.2) (fun p r a hp => HH.out.2.2.1 p r a (by rw [HC1.out, ← HH.out.1]; exact hp))
                        have HLi1 := Lib.hid (HLi.out ds' D dk G.length w16 (HX0.out.trans (HX6.out.trans HX16.out)) (HOd.out.ex hx16).row (HH.out.1.trans HC1.out.symm) (by omega))
                        rw [hlin] at HLi1
                        have HGe1 := Lib.hid (HGe.out a ds' HT6.out hlin)
                        have a0 := (HB0.out _ (HX6.out.trans HX16.out)).cell 0
                        have al := (HB0.out _ (HX6.out.trans HX16.out)).lt
                        have HRd := Lib.hid (fun w' (h : Ex w16 w') => (HOd.out.ex (hx16.trans h)).row)
                        have HGl2 : Hid (G.length = l.length) := by show G.length = l.length; rw [HLt.out, HC1.out]
                        have hLq := fun w' (h : Ex w16 w') => HLq.out ds' a D aA dk ak G.length w' (HRd.out w' h) (HR6.out w' (HX16.out.trans h)) (HH.out.1.trans HC1.out.symm) (HL6.out.trans HGl2.out.symm) HGe1.out (by omega)
                        have HLq1 : Hid (∀ w', Ex w16 w' → Calls Try.prog 37 #[.slice D G.length dk, .slice aA l.length ak] w' (Ret w' (.bool true))) := by
                          rw [← HGl2.out]
                          exact Lib.hid hLq
                        clear hLq hlin hx16 heq
                        go_wp2_with fail
                        refine (HLi1.out).mono ?_
                        rintro e9 w17 ⟨rfl, hx17⟩
                        have HX17 := Lib.hid hx17
                        clear hx17 a0 al
                        go_wp2_with fail
                        refine (HLq1.out _ HX17.out).mono ?_
                        rintro e9 w18 ⟨rfl, hx18⟩
                        go_wp2_with fail
                        go_ret
                        exact Ret.mk rfl (HX0.out.trans (HX6.out.trans (HX16.out.trans (HX17.out.trans hx18))))
                      · have s3 : decide (os = ds') = false := decide_eq_false heq
                        rw [s3]
                        have HO7 := Lib.hid (HO6.out.ex hx16)
                        clear heq hx16
                        go_wp2_with fail
                        refine ⟨⟨k + 1, D2, k2, os, by go_num, by omega, rfl, Lib.hid ⟨HO5.out.1, HO5.out.2.1, HO7.out, HX16.out⟩⟩, by simp [intOf]; omega⟩
                · obtain rfl : k = 200 := by omega
                  go_wp2_with fail
                  go_ret
                  exact Ret.mk rfl (HX0.out.trans (HX6.out.trans HI.out.2.2.2))
end Go.Proofs.Ytdenojfbdkdpiaa
