/-
  Lists of words compared; the law Words, walked.
  Conditions: the world's tables are as laid (Env).
-/
import Derived.Test.YtlkebnobcfffeaaDoorPo
import Derived.Test.YtlkebnobcfffeaaDoorPk
namespace Go.Proofs.YtlkebnobcfffeaaDoor
open Go.RowKit
/-- block g reads xs from its head on -/
def At (w : World) (g : Nat) (xs : List Value) : Prop := g < w.heap.size ∧ ∀ (j : Nat) u, xs[j]? = some u → w.cell? ⟨g, j, none⟩ = some u
theorem At.ex {w w' : World} {g : Nat} {xs : List Value} (h : At w g xs) (hx : Ex w w') : At w' g xs :=
  ⟨Nat.lt_of_lt_of_le h.1 hx.below.size, fun j u hj => (hx.below.cell (p := ⟨g, j, none⟩) h.1).trans (h.2 j u hj)⟩
theorem At.of {w : World} {base : Nat} {e : TypeId} {size : Nat} {v : Value} {n : Nat} {xs : List Value} (h : w.ownsRow base e size v n xs) (h0 : 0 < n) : ∃ g c, v = .slice (some ⟨g, 0, none⟩) n c ∧ At w g xs ∧ base ≤ g := by
  obtain ⟨g, c, rfl, hg, hb⟩ := own_some h h0
  exact ⟨g, c, rfl, ⟨hg, fun j u hj => own_cell h j u hj⟩, hb⟩
theorem wds_get : ∀ (l : List Wd) (k : Nat) (x : Wd), l[k]? = some x → ∀ j, j < 4 → (wdsV l)[k * 4 + j]? = (wdVs x)[j]?
  | [], k, x, h, j, _ => by simp at h
  | y :: l, 0, x, h, j, hj => by
    simp at h; subst h
    show (wdVs y ++ wdsV l)[0 * 4 + j]? = _
    rw [List.getElem?_append_left (by show 0 * 4 + j < 4; omega)]
    simp
  | y :: l, k + 1, x, h, j, hj => by
    show (wdVs y ++ wdsV l)[(k + 1) * 4 + j]? = _
    rw [List.getElem?_append_right (by show 4 ≤ _; omega)]
    have := wds_get l k x (by simpa using h) j hj
    rw [← this]
    congr 1
    show (k + 1) * 4 + j - 4 = _
    omega
theorem At.word {w : World} {g : Nat} {l : List Wd} (h : At w g (wdsV l)) {k : Nat} {x : Wd} (hx : l[k]? = some x) :
    w.cell? ⟨g, k * 4, none⟩ = some (.int .i64 (x.kind : Nat)) ∧ w.cell? ⟨g, k * 4 + 1, none⟩ = some (.string ⟨x.text.toArray⟩) ∧ w.cell? ⟨g, k * 4 + 2, none⟩ = some (.int .i64 (x.pos.1 : Nat)) ∧ w.cell? ⟨g, k * 4 + 3, none⟩ = some (.int .i64 (x.pos.2 : Nat)) :=
  ⟨h.2 (k * 4 + 0) _ (wds_get l k x hx 0 (by omega)), h.2 (k * 4 + 1) _ (wds_get l k x hx 1 (by omega)), h.2 (k * 4 + 2) _ (wds_get l k x hx 2 (by omega)), h.2 (k * 4 + 3) _ (wds_get l k x hx 3 (by omega))⟩
theorem same_nil (w : World) : Calls Tryd.prog 12 #[.slice none 0 0, .slice none 0 0] w (Ret w (.bool true)) := by
  go_enter Tryd.func12, Tryd.ntmps12
  go_wp2_with fail
  go_loopw [5] (fun i wr => i = .int .i64 0 ∧ Ex w wr) (fun i _ => 0)
  case atStart => exact ⟨rfl, Ex.refl _⟩
  case round =>
    obtain ⟨rfl, hx⟩ := hrel
    go_wp2_with fail
    go_ret
    exact Ret.mk rfl hx
set_option maxHeartbeats 800000 in
theorem same_c (g1 g2 c1 c2 : Nat) (l : List Wd) (w : World) (h1 : At w g1 (wdsV l)) (h2 : At w g2 (wdsV l)) (hl : l.length ≤ 2000) :
    Calls Tryd.prog 12 #[.slice (some ⟨g1, 0, none⟩) l.length c1, .slice (some ⟨g2, 0, none⟩) l.length c2] w (Ret w (.bool true)) := by
  have H1 := Lib.hid (fun w' (hx : Ex w w') => h1.ex hx)
  have H2 := Lib.hid (fun w' (hx : Ex w w') => h2.ex hx)
  have HG : Hid (∀ k, k < l.length → ∃ x, l[k]? = some x) := fun k hk => ⟨_, List.getElem?_eq_getElem hk⟩
  clear h1 h2
  go_enter Tryd.func12, Tryd.ntmps12
  go_wp2_with fail
  go_loopw [5] (fun i wr => ∃ k : Nat, i = .int .i64 k ∧ k ≤ l.length ∧ Ex w wr) (fun i _ => l.length - (intOf i).toNat)
  case atStart => exact ⟨0, rfl, by omega, Ex.refl _⟩
  case round =>
    obtain ⟨k, rfl, hk, hx⟩ := hrel
    have HX := Lib.hid hx
    by_cases hlt : k < l.length
    · have n1 : (k : Int) < (l.length : Int) := by omega
      have n0 : (0 : Int) ≤ (k : Int) := by omega
      obtain ⟨x, hx0⟩ := HG.out k hlt
      obtain ⟨a0, a1, a2, a3⟩ := (H1.out _ hx).word hx0
      obtain ⟨b0, b1, b2, b3⟩ := (H2.out _ hx).word hx0
      have la := (H1.out _ hx).1
      have lb := (H2.out _ hx).1
      clear hx hx0 HG
      go_wp2_with fail
      refine wp_region_ext (by kernel_rfl) (by kernel_rfl) ?_
      repeat (go_big_quiet_step (fail))
      refine wpQuiet_end (fun z => ?_)
      go_wp2_with fail
      refine ⟨⟨k + 1, by go_num, by omega, HX.out.ext _⟩, by simp [intOf]; omega⟩
    · have n1 : decide ((k : Int) < (l.length : Int)) = false := decide_eq_false (by omega)
      clear hx HG
      go_wp2_with fail
      go_ret
      exact Ret.mk rfl HX.out
theorem lex_ne {f : Nat} {L : List UInt8} {p : Nat × Nat} {l : List Wd} (h : lexL f L p = .ok l) : 0 < l.length := by
  obtain ⟨ws, E, rfl, _⟩ := lex_rights _ _ _ _ h
  simp
theorem lex_len {f : Nat} {L : List UInt8} {p : Nat × Nat} {l : List Wd} (h : lexL f L p = .ok l) : l.length ≤ f + 1 := by
  obtain ⟨ws, E, rfl, _, _, h, _⟩ := lex_rights _ _ _ _ h
  simp; omega
set_option maxRecDepth 20000 in
set_option maxHeartbeats 1600000 in
theorem wordsLaw_skip (s : ByteArray) (w : World) (hE : Env w) (h : (3000 < s.size ∧ s.size ≤ 16384) ∨ 17000 < s.size) : Calls Tryd.prog 3 #[.string s] w (Ret w (.bool true)) := by
  have HA := Lib.hid (fun w' (hx : Ex w w') => awake_c w' (hE.ex hx))
  have f1 : decide (3000 < (s.size : Int)) = true := decide_eq_true (by omega)
  have f : decide ((s.size : Int) ≤ 16384) = true ∨ (decide ((s.size : Int) ≤ 16384) = false ∧ decide (17000 < (s.size : Int)) = true) := by
    rcases h with h | h
    · exact .inl (decide_eq_true (by omega))
    · exact .inr ⟨decide_eq_false (by omega), decide_eq_true (by omega)⟩
  clear hE h
  rcases f with f2 | ⟨f2, f3⟩
  all_goals
    go_enter Tryd.func3, Tryd.ntmps3
    go_wp2_with fail
    refine (HA.out _ (Ex.refl _)).mono ?_
    rintro e w' ⟨rfl, z, rfl⟩
    go_wp2_with fail
    refine (HA.out _ ((Ex.refl _).ext z)).mono ?_
    rintro e w' ⟨rfl, z2, rfl⟩
    go_wp2_with fail
    go_ret
    exact Ret.mk rfl (((Ex.refl _).ext _).ext _)
set_option maxRecDepth 20000 in
set_option maxHeartbeats 1600000 in
theorem wordsLaw_bad (s : ByteArray) (w : World) (hE : Env w) (p q n : Nat)
    (hs : (s.size ≤ 3000) ∨ (16384 < s.size ∧ s.size ≤ 17000))
    (h10 : ∀ w', Ex w w' → Calls Tryd.prog 10 #[.string s] w' (WordsR w' (.bad (p, q) n))) (h11 : ∀ w', Calls Tryd.prog 11 #[.string s] w' (WordsR w' (.bad (p, q) n))) :
    Calls Tryd.prog 3 #[.string s] w (Ret w (.bool true)) := by
  have HA := Lib.hid (fun w' (hx : Ex w w') => awake_c w' (hE.ex hx))
  have H10 := Lib.hid h10
  have H11 := Lib.hid h11
  have HS := Lib.hid same_nil
  have f3 : decide (17000 < (s.size : Int)) = false := decide_eq_false (by omega)
  have f : decide (3000 < (s.size : Int)) = false ∨ (decide (3000 < (s.size : Int)) = true ∧ decide ((s.size : Int) ≤ 16384) = false) := by
    rcases hs with h | h
    · exact .inl (decide_eq_false (by omega))
    · exact .inr ⟨decide_eq_true (by omega), decide_eq_false (by omega)⟩
  unfold WordsR at H10 H11
  dsimp only at H10 H11
  clear hE h10 h11 hs
  rcases f with f1 | ⟨f1, f2⟩
  all_goals
    go_enter Tryd.func3, Tryd.ntmps3
    go_wp2_with fail
    refine (HA.out _ (Ex.refl _)).mono ?_
    rintro e w' ⟨rfl, z, rfl⟩
    go_wp2_with fail
    refine (H10.out _ ((Ex.refl _).ext z)).mono ?_
    rintro e w1 ⟨rfl, hx1⟩
    have HX1 : Hid (Ex w w1) := ((Ex.refl _).ext z).trans hx1
    clear hx1
    go_wp2_with fail
    refine (H11.out _).mono ?_
    rintro e w2 ⟨rfl, hx2⟩
    have hP := (Blk.new w1 25 [.int .i64 p, .int .i64 q]).ex hx2
    have HX2 : Hid (Ex w w2) := (HX1.out.alloc _).trans hx2
    have HP := Lib.hid hP
    clear hx2 hP
    go_wp2_with fail
    refine (HS.out _).mono ?_
    rintro e w3 ⟨rfl, z3, rfl⟩
    have hP1 := ((HP.out.alloc (.cells #[.int .i64 p, .int .i64 q] 25)).ex ⟨z3, rfl⟩)
    have hP2 := (Blk.new w2 25 [.int .i64 p, .int .i64 q]).ex ⟨z3, rfl⟩
    have p0 := hP1.cell 0
    have p1 := hP1.cell 1
    have q0 := hP2.cell 0
    have q1 := hP2.cell 1
    simp only [List.getElem?_cons_zero, List.getElem?_cons_succ] at p0 p1 q0 q1
    clear hP1 hP2
    go_wp2_with fail
    go_ret
    exact Ret.mk rfl ((HX2.out.alloc _).ext _)
set_option maxRecDepth 20000 in
set_option maxHeartbeats 1600000 in
theorem wordsLaw_ok (s : ByteArray) (w : World) (hE : Env w) (hs : s.size ≤ 3000) (l : List Wd) (hR : lexL 1000 s.data.toList (1, 1) = .ok l) :
    Calls Tryd.prog 3 #[.string s] w (Ret w (.bool true)) := by
  have HA := Lib.hid (fun w' (hx : Ex w w') => awake_c w' (hE.ex hx))
  have H10 := Lib.hid (fun w' (hx : Ex w w') => words_c s w' (hE.ex hx) (by omega))
  have H11 := Lib.hid (fun w' => rWords_c s w' (by omega))
  rw [hR] at H10 H11
  have hl0 := lex_ne hR
  have hl1 := lex_len hR
  have HL : Hid (0 < l.length) := hl0
  have HS := Lib.hid (fun g1 g2 c1 c2 w h1 h2 => same_c g1 g2 c1 c2 l w h1 h2 (by omega))
  have f1 : decide (3000 < (s.size : Int)) = false := decide_eq_false (by omega)
  have f3 : decide (17000 < (s.size : Int)) = false := decide_eq_false (by omega)
  unfold WordsR at H10 H11
  dsimp only at H10 H11
  clear hE hs hR hl0 hl1
  go_enter Tryd.func3, Tryd.ntmps3
  go_wp2_with fail
  refine (HA.out _ (Ex.refl _)).mono ?_
  rintro e w' ⟨rfl, z, rfl⟩
  go_wp2_with fail
  refine (H10.out _ ((Ex.refl _).ext z)).mono ?_
  rintro e w1 ⟨v1, rfl, hown, hx1⟩
  obtain ⟨g1, c1, rfl, hA1, -⟩ := At.of hown HL.out
  have HX1 : Hid (Ex w w1) := ((Ex.refl _).ext z).trans hx1
  have HA1 := Lib.hid hA1
  clear hx1 hA1 hown
  go_wp2_with fail
  refine (H11.out _).mono ?_
  rintro e w2 ⟨v2, rfl, hown, hx2⟩
  obtain ⟨g2, c2, rfl, hA2, -⟩ := At.of hown HL.out
  have HP := Lib.hid ((Blk.new w1 25 [.int .i64 0, .int .i64 0]).ex hx2)
  have HX2 : Hid (Ex w w2) := (HX1.out.alloc _).trans hx2
  have HA12 := Lib.hid ((HA1.out.ex ((Ex.refl _).alloc (.cells #[.int .i64 0, .int .i64 0] 25))).ex hx2)
  have HA2 := Lib.hid hA2
  clear hx2 hA2 hown
  go_wp2_with fail
  refine (HS.out _ _ _ _ _ (HA12.out.ex ((Ex.refl _).alloc _)) (HA2.out.ex ((Ex.refl _).alloc _))).mono ?_
  rintro e w3 ⟨rfl, z3, rfl⟩
  have hP1 := ((HP.out.alloc (.cells #[.int .i64 0, .int .i64 0] 25)).ex ⟨z3, rfl⟩)
  have hP2 := (Blk.new w2 25 [.int .i64 0, .int .i64 0]).ex ⟨z3, rfl⟩
  have p0 := hP1.cell 0
  have p1 := hP1.cell 1
  have q0 := hP2.cell 0
  have q1 := hP2.cell 1
  simp only [List.getElem?_cons_zero, List.getElem?_cons_succ] at p0 p1 q0 q1
  clear hP1 hP2
  go_wp2_with fail
  go_ret
  exact Ret.mk rfl ((HX2.out.alloc _).ext _)
theorem wordsLaw_c (s : ByteArray) (w : World) (hE : Env w) : Calls Tryd.prog 3 #[.string s] w (Ret w (.bool true)) := by
  by_cases h1 : (3000 < s.size ∧ s.size ≤ 16384) ∨ 17000 < s.size
  · exact wordsLaw_skip s w hE h1
  · by_cases h2 : 16384 < s.size
    · exact wordsLaw_bad s w hE 0 0 5 (by omega) (fun w' _ => words_long s w' h2) (fun w' => rWords_long s w' h2)
    · cases hR : lexL 1000 s.data.toList (1, 1) with
      | ok l => exact wordsLaw_ok s w hE (by omega) l hR
      | bad p n =>
        obtain ⟨p, q⟩ := p
        refine wordsLaw_bad s w hE p q n (by omega) (fun w' hx => ?_) (fun w' => ?_)
        · have := words_c s w' (hE.ex hx) (by omega)
          rw [hR] at this; exact this
        · have := rWords_c s w' (by omega)
          rw [hR] at this; exact this
end Go.Proofs.YtlkebnobcfffeaaDoor
