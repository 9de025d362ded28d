/-
  The law Back, walked.
  Conditions: the world's tables are as laid (Env).
-/
import Derived.Test.YtlkebnobcfffeaaDoorPy
namespace Go.Proofs.YtlkebnobcfffeaaDoor
open Go.RowKit
def toGw (x : Wd) : Gw := ⟨x.kind, ⟨x.text.toArray⟩, x.pos.1, x.pos.2⟩
theorem wds_gws : ∀ m : List Wd, wdsV m = gwsV (m.map toGw)
  | [] => rfl
  | x :: m => by
    show wdVs x ++ wdsV m = gwVs (toGw x) ++ gwsV (m.map toGw)
    rw [wds_gws m]; rfl
theorem gkey_to (x : Wd) : gkey (toGw x) = key x := by
  unfold gkey toGw key; simp
theorem joinT_key {a b : List Gw} (h : a.map gkey = b.map gkey) : joinT a = joinT b := by
  have e : ∀ l : List Gw, (l.map (·.text)).map (·.data.toList) = (l.map gkey).map Prod.snd := fun l => by
    simp [gkey]
  unfold joinT
  rw [e, e, h]
theorem right_key {x y : Gw} (h : gkey x = gkey y) (hx : 0 ≤ x.kind) (hy : rightB y = true) : rightB x = true := by
  obtain ⟨k, hk, hr⟩ := (rightB_iff y).1 hy
  unfold gkey at h
  injection h with h1 h2
  refine (rightB_iff x).2 ⟨k, by omega, ?_⟩
  rw [h2]; exact hr
/-- what comes of words that were joined -/
theorem back_words {l' : List Gw} (hall : l'.all rightB = true) (hl : l'.length ≤ 201) (ht : ∀ x ∈ l', x.text.size ≤ 20) :
    ∃ (m : List Wd) (E : Wd), lexL 1000 (joinT l') (1, 1) = .ok m ∧ m.length = l'.length + 1 ∧ m[l'.length]? = some E ∧ E.kind = 4 ∧ E.text = [] ∧
      (∀ (k : Nat) (x : Gw), l'[k]? = some x → ∃ y, m[k]? = some y ∧ (y.kind : Int) = x.kind ∧ (⟨y.text.toArray⟩ : ByteArray) = x.text) ∧
      (∀ y ∈ m.map toGw, y.text.size ≤ 20) ∧ ((m.map toGw).take l'.length).all rightB = true ∧ joinT ((m.map toGw).take l'.length) = joinT l' := by
  have hall' : ∀ x ∈ l', rightB x = true := fun x hx => List.all_eq_true.1 hall x hx
  obtain ⟨m, hm, hk⟩ := rd_lex (join_rd l' hall') 1000 (1, 1) (by rw [List.length_map]; omega)
  have hml : m.length = l'.length + 1 := by simpa using congrArg List.length hk
  have hkk : ∀ k : Nat, (m.map key)[k]? = (l'.map gkey ++ [(4, [])])[k]? := fun k => by rw [hk]
  have hE : ∃ E, m[l'.length]? = some E ∧ key E = (4, []) := by
    have := hkk l'.length
    rw [List.getElem?_append_right (by simp)] at this
    simp at this
    obtain ⟨E, h1, h2⟩ := this
    exact ⟨E, h1, h2⟩
  obtain ⟨E, hE1, hE2⟩ := hE
  unfold key at hE2
  injection hE2 with hE2 hE3
  have hx : ∀ (k : Nat) (x : Gw), l'[k]? = some x → ∃ y, m[k]? = some y ∧ key y = gkey x := fun k x h => by
    have hkl : k < l'.length := (List.getElem?_eq_some_iff.1 h).1
    have := hkk k
    rw [List.getElem?_append_left (by simpa using hkl), List.getElem?_map, List.getElem?_map, h] at this
    cases hy : m[k]? with
    | none => rw [hy] at this; cases this
    | some y => rw [hy] at this; injection this with this; exact ⟨y, rfl, this⟩
  have hmm : ((m.map toGw).take l'.length).map gkey = l'.map gkey := by
    rw [List.map_take, List.map_map, show gkey ∘ toGw = key from funext gkey_to, hk, List.take_left' (by simp)]
  refine ⟨m, E, hm, hml, hE1, hE2, hE3, fun k x h => ?_, fun y hy => ?_, ?_, joinT_key hmm⟩
  · obtain ⟨y, h1, h2⟩ := hx k x h
    obtain ⟨kk, h3, -⟩ := (rightB_iff x).1 (hall' x (List.mem_of_getElem? h))
    unfold key gkey at h2
    injection h2 with h2 h4
    refine ⟨y, h1, by omega, ?_⟩
    rw [h4]
  · obtain ⟨k, hky⟩ := List.mem_iff_getElem?.1 hy
    rw [List.getElem?_map] at hky
    cases hmk : m[k]? with
    | none => rw [hmk] at hky; cases hky
    | some z =>
      rw [hmk] at hky
      injection hky with hky
      rw [← hky]
      have hkm : k < m.length := (List.getElem?_eq_some_iff.1 hmk).1
      show (⟨z.text.toArray⟩ : ByteArray).size ≤ 20
      by_cases hkl : k < l'.length
      · obtain ⟨x, hxk⟩ : ∃ x, l'[k]? = some x := ⟨_, List.getElem?_eq_getElem hkl⟩
        obtain ⟨z', h1, h2⟩ := hx k x hxk
        rw [hmk] at h1
        injection h1 with h1
        subst h1
        unfold key gkey at h2
        injection h2 with h2 h4
        rw [size_data]
        show z.text.length ≤ 20
        rw [h4, ← size_data]
        exact ht x (List.mem_of_getElem? hxk)
      · have : k = l'.length := by omega
        subst this
        rw [hE1] at hmk
        injection hmk with hmk
        rw [← hmk, hE3]; decide
  · rw [List.all_eq_true]
    intro y hy
    obtain ⟨k, hky⟩ := List.mem_iff_getElem?.1 hy
    have h1 : (((m.map toGw).take l'.length).map gkey)[k]? = (l'.map gkey)[k]? := by rw [hmm]
    rw [List.getElem?_map, List.getElem?_map, hky] at h1
    cases hlk : l'[k]? with
    | none => rw [hlk] at h1; cases h1
    | some x =>
      rw [hlk] at h1
      injection h1 with h1
      refine right_key h1 ?_ (hall' x (List.mem_of_getElem? hlk))
      have := List.mem_of_mem_take hy
      obtain ⟨z, -, hz⟩ := List.mem_map.1 this
      rw [← hz]
      show (0 : Int) ≤ (z.kind : Int)
      omega
theorem end_lex : lexL 1000 [] (1, 1) = .ok [⟨4, [], (1, 1)⟩] := lex_end _ _
set_option maxRecDepth 20000 in
set_option maxHeartbeats 1600000 in
theorem back_nil (A : Option Addr) (c : Nat) (w : World) (hE : Env w) : Calls Tryd.prog 8 #[.slice A 0 c] w (Ret w (.bool true)) := by
  have HA := Lib.hid (fun w' (hx : Ex w w') => awake_c w' (hE.ex hx))
  have HC := Lib.hid (contains_nil A c)
  have HJ := Lib.hid (join_nil A c)
  have HW := Lib.hid (fun w' (hx : Ex w w') => words_c ⟨#[]⟩ w' (hE.ex hx) (by decide))
  rw [show (⟨#[]⟩ : ByteArray).data.toList = [] from rfl, end_lex] at HW
  unfold WordsR at HW
  dsimp only at HW
  have HJ2 := Lib.hid (fun (g c2 : Nat) w' (hx : Ex w w') (hr : Row w' g 0 (gwsV [toGw ⟨4, [], (1, 1)⟩])) (hc : 1 ≤ c2) => join_core g 0 c2 0 [toGw ⟨4, [], (1, 1)⟩] [] w' (hE.ex hx) hr rfl (by omega) hc (by decide) _ rfl (.inl ⟨rfl, rfl, rfl⟩))
  clear hE
  go_enter Tryd.func8, Tryd.ntmps8
  go_wp2_with fail
  refine (HA.out _ (Ex.refl _)).mono ?_
  rintro e w' ⟨rfl, z, rfl⟩
  go_wp2_with fail
  refine (HC.out _).mono ?_
  rintro e w' ⟨rfl, z2, rfl⟩
  go_wp2_with fail
  refine (HJ.out _).mono ?_
  rintro e w0 ⟨h1, -, hx0⟩
  obtain rfl := h1 rfl
  have HX0 : Hid (Ex w w0) := (((Ex.refl _).ext _).ext _).trans hx0
  clear h1 hx0
  rw [show (⟨(joinT []).toArray⟩ : ByteArray) = ⟨#[]⟩ from rfl]
  go_wp2_with fail
  refine (HW.out _ HX0.out).mono ?_
  rintro e w1 ⟨v1, rfl, hown, hx1⟩
  have hcc : ∃ g c2, v1 = .slice (some ⟨g, 0, none⟩) 1 c2 ∧ At w1 g (wdsV [⟨4, [], (1, 1)⟩]) ∧ 1 ≤ c2 := by
    obtain ⟨g, c2, rfl, hA, -⟩ := At.of hown (by decide)
    refine ⟨g, c2, rfl, hA, ?_⟩
    rcases hown.2 with ⟨h, -⟩ | ⟨g', cap, cur, h, -, -, hle, -⟩
    · cases h
    · injection h with h1 h2 h3
      subst h3
      exact hle
  obtain ⟨g, c2, rfl, hA, hc2⟩ := hcc
  have HX1 : Hid (Ex w w1) := HX0.out.trans hx1
  have HAt := Lib.hid (fun w' (hx : Ex w1 w') => hA.ex hx)
  have k0 : ∀ o, (w1.alloc o).cell? ⟨g, 0, none⟩ = some (.int .i64 4) := fun o => (hA.ex ((Ex.refl w1).alloc o)).2 0 _ rfl
  have k1 : ∀ o, (w1.alloc o).cell? ⟨g, 1, none⟩ = some (.string ⟨#[]⟩) := fun o => (hA.ex ((Ex.refl w1).alloc o)).2 1 _ rfl
  have lg := hA.1
  have HC2 : Hid (1 ≤ c2) := hc2
  clear hx1 hA hown hc2
  go_wp2_with fail
  go_loopw [84] (fun a wr => a = .int .i64 0 ∧ Hid (Ex w1 wr)) (fun a _ => 0)
  case atStart => exact ⟨rfl, Lib.hid ((Ex.refl _).alloc _)⟩
  case round =>
    obtain ⟨rfl, HX2⟩ := hrel
    go_wp2_with fail
    refine (HJ2.out g c2 _ (HX1.out.trans HX2.out) (HAt.out _ HX2.out).row HC2.out).mono ?_
    rintro e w3 ⟨h1, -, hx3⟩
    obtain rfl := h1 rfl
    have HX3 : Hid (Ex w w3) := (HX1.out.trans HX2.out).trans hx3
    clear h1 hx3
    rw [show (⟨(joinT []).toArray⟩ : ByteArray) = ⟨#[]⟩ from rfl]
    go_wp2_with fail
    go_ret
    exact Ret.mk rfl HX3.out
set_option maxRecDepth 20000 in
set_option maxHeartbeats 4000000 in
theorem back_skip (b o c n : Nat) (l : List Gw) (w : World) (hE : Env w) (hR : Row w b o (gwsV l)) (hl : l.length = n + 1) (h : 200 < n + 1 ∨ l.any bigB = true) :
    Calls Tryd.prog 8 #[.slice (some ⟨b, o, none⟩) (n + 1) c] w (Ret w (.bool true)) := by
  have HA := Lib.hid (fun w' (hx : Ex w w') => awake_c w' (hE.ex hx))
  by_cases h1 : 200 < n + 1
  · have f1 : decide ((200 : Int) < (n : Int) + 1) = true := decide_eq_true (by omega)
    clear hE hR h h1
    go_enter Tryd.func8, Tryd.ntmps8
    go_wp2_with fail
    refine (HA.out _ (Ex.refl _)).mono ?_
    rintro e w' ⟨rfl, z, rfl⟩
    go_wp2_with fail
    refine (HA.out _ ((Ex.refl _).ext z)).mono ?_
    rintro e w' ⟨rfl, z2, rfl⟩
    go_wp2_with fail
    go_ret
    exact Ret.mk rfl (((Ex.refl _).ext _).ext _)
  · have f1 : decide ((200 : Int) < (n : Int) + 1) = false := decide_eq_false (by omega)
    have ha : l.any bigB = true := by rcases h with h | h; exact absurd h h1; exact h
    have HC := Lib.hid (fun w' (hx : Ex w w') => contains_c b o c l w' (hR.ex hx) (by omega))
    rw [ha, hl] at HC
    clear hE hR h h1 ha
    go_enter Tryd.func8, Tryd.ntmps8
    go_wp2_with fail
    refine (HA.out _ (Ex.refl _)).mono ?_
    rintro e w' ⟨rfl, z, rfl⟩
    go_wp2_with fail
    refine (HC.out _ ((Ex.refl _).ext z)).mono ?_
    rintro e w' ⟨rfl, z2, rfl⟩
    go_wp2_with fail
    refine (HA.out _ (((Ex.refl _).ext z).ext z2)).mono ?_
    rintro e w' ⟨rfl, z3, rfl⟩
    go_wp2_with fail
    go_ret
    exact Ret.mk rfl ((((Ex.refl _).ext _).ext _).ext _)
set_option maxRecDepth 20000 in
set_option maxHeartbeats 4000000 in
theorem back_row (b o c n : Nat) (l : List Gw) (w : World) (hE : Env w) (hR : Row w b o (gwsV l)) (hl : l.length = n + 1) (hcp : n + 1 ≤ c) (hn : n + 1 ≤ 200) (ha : l.any bigB = false) :
    Calls Tryd.prog 8 #[.slice (some ⟨b, o, none⟩) (n + 1) c] w (Ret w (.bool true)) := by
  have HA := Lib.hid (fun w' (hx : Ex w w') => awake_c w' (hE.ex hx))
  have HC := Lib.hid (fun w' (hx : Ex w w') => contains_c b o c l w' (hR.ex hx) (by omega))
  rw [ha, hl] at HC
  have ht : ∀ x ∈ l, x.text.size ≤ 20 := fun x hx => by
    have := List.any_eq_false.1 ha x hx
    unfold bigB at this
    simp at this
    exact this
  obtain ⟨x, hx⟩ : ∃ x, l[n]? = some x := ⟨_, List.getElem?_eq_getElem (by omega)⟩
  obtain ⟨l', hc⟩ : ∃ l', (x.kind = 4 ∧ x.text.size = 0 ∧ l' = l.take n) ∨ (¬ (x.kind = 4 ∧ x.text.size = 0) ∧ l' = l) := by
    by_cases h : x.kind = 4 ∧ x.text.size = 0
    · exact ⟨_, .inl ⟨h.1, h.2, rfl⟩⟩
    · exact ⟨_, .inr ⟨h, rfl⟩⟩
  have HJ := Lib.hid (fun w' (hX : Ex w w') => join_core b o c n l l' w' (hE.ex hX) (hR.ex hX) hl (by omega) hcp ht x hx hc)
  have f1 : decide ((200 : Int) < (n : Int) + 1) = false := decide_eq_false (by omega)
  cases hall : l'.all rightB with
  | false =>
    clear hE hR ha ht hx hc
    go_enter Tryd.func8, Tryd.ntmps8
    go_wp2_with fail
    refine (HA.out _ (Ex.refl _)).mono ?_
    rintro e w' ⟨rfl, z, rfl⟩
    go_wp2_with fail
    refine (HC.out _ ((Ex.refl _).ext z)).mono ?_
    rintro e w' ⟨rfl, z2, rfl⟩
    go_wp2_with fail
    refine (HJ.out _ (((Ex.refl _).ext z).ext z2)).mono ?_
    rintro e w0 ⟨-, h1, hx0⟩
    obtain rfl := h1 hall
    have HX0 : Hid (Ex w w0) := (((Ex.refl _).ext _).ext _).trans hx0
    clear h1 hx0 hall
    go_wp2_with fail
    go_ret
    exact Ret.mk rfl HX0.out
  | true =>
    have hl2 : (l' = l.take n ∧ l'.length = n ∧ x.kind = 4) ∨ (l' = l ∧ l'.length = n + 1 ∧ x.kind ≠ 4) := by
      rcases hc with ⟨h1, h2, rfl⟩ | ⟨h, rfl⟩
      · exact .inl ⟨rfl, by rw [List.length_take]; omega, h1⟩
      · refine .inr ⟨rfl, hl, fun h4 => ?_⟩
        obtain ⟨k, hk, hr⟩ := (rightB_iff x).1 (List.all_eq_true.1 hall x (List.mem_of_getElem? hx))
        exact hr.2 (by omega)
    have hsub : ∀ (k : Nat) (y : Gw), l'[k]? = some y → l[k]? = some y := by
      rcases hl2 with ⟨rfl, _, _⟩ | ⟨rfl, _, _⟩
      · intro k y h
        rw [List.getElem?_take] at h
        split at h
        · exact h
        · cases h
      · exact fun k y h => h
    obtain ⟨m, E, hm, hml, hE1, hE2, hE3, hmx, hmt, hmr, hmj⟩ := back_words hall (by rcases hl2 with h | h <;> omega) (fun y hy => by
      obtain ⟨k, hk⟩ := List.mem_iff_getElem?.1 hy
      exact ht y (List.mem_of_getElem? (hsub k y hk)))
    obtain ⟨N, hN⟩ : ∃ N, l'.length = N := ⟨_, rfl⟩
    rw [hN] at hml hE1 hmr hmj
    have hjl : (joinT l').length ≤ 4300 := by
      have h1 := joinT_len 20 l' (fun y hy => by
        obtain ⟨k, hk⟩ := List.mem_iff_getElem?.1 hy
        exact ht y (List.mem_of_getElem? (hsub k y hk)))
      have h2 : (20 + 1) * l'.length ≤ 21 * 201 := Nat.mul_le_mul (Nat.le_refl _) (by rcases hl2 with h | h <;> omega)
      omega
    have HG : Hid (∀ k, k < N → ∃ y, l'[k]? = some y) := fun k hk => ⟨_, List.getElem?_eq_getElem (by omega)⟩
    obtain ⟨JB, hJB⟩ : ∃ JB : ByteArray, JB = ⟨(joinT l').toArray⟩ := ⟨_, rfl⟩
    have hJd : JB.data.toList = joinT l' := by rw [hJB]
    have HW := Lib.hid (fun w' (hX : Ex w w') => words_c JB w' (hE.ex hX) (by rw [size_data, hJd]; omega))
    rw [hJd, hm] at HW
    unfold WordsR at HW
    dsimp only at HW
    rw [hml] at HW
    have HJB := Lib.hid hJB
    have HJ2 := Lib.hid (fun (g c2 : Nat) w' (hX : Ex w w') (hr : Row w' g 0 (gwsV (m.map toGw))) (hc2 : N + 1 ≤ c2) => join_core g 0 c2 N (m.map toGw) ((m.map toGw).take N) w' (hE.ex hX) hr (by rw [List.length_map]; exact hml) (by rcases hl2 with h | h <;> omega) hc2 hmt (toGw E) (by rw [List.getElem?_map, hE1]; rfl) (.inl ⟨by show (E.kind : Int) = 4; omega, by show (⟨E.text.toArray⟩ : ByteArray).size = 0; rw [hE3]; rfl, rfl⟩))
    have HMr : Hid (((m.map toGw).take N).all rightB = true) := hmr
    have HMj : Hid (joinT ((m.map toGw).take N) = joinT l') := hmj
    have HMx := Lib.hid hmx
    have HSub := Lib.hid hsub
    have HE1 := Lib.hid hE1
    have HRx := Lib.hid (fun w' (hX : Ex w w') => hR.ex hX)
    have HxN := Lib.hid hx
    have Hall : Hid (l'.all rightB = true) := hall
    obtain ⟨q, hq, hqN⟩ : ∃ q : Bool, (x.kind == 4) = q ∧ ((q = true ∧ N = n) ∨ (q = false ∧ N = n + 1)) := by
      refine ⟨_, rfl, ?_⟩
      rcases hl2 with ⟨_, h1, h2⟩ | ⟨_, h1, h2⟩
      · exact .inl ⟨by rw [h2]; rfl, by omega⟩
      · exact .inr ⟨beq_eq_false_iff_ne.2 h2, by omega⟩
    obtain ⟨kd, T, pa, pb⟩ := x
    obtain ⟨kE, tE, pE⟩ := E
    dsimp only at hq hE2 hE3
    subst hE2 hE3
    have HqN := Lib.hid hqN
    have hN9 : N ≤ 200 := by omega
    clear hE hR ha ht hx hc hl2 hsub hm hml hE1 hmx hmt hmr hmj hjl hJB hJd hall hN hqN
    cases q
    all_goals
      go_enter Tryd.func8, Tryd.ntmps8
      go_wp2_with fail
      refine (HA.out _ (Ex.refl _)).mono ?_
      rintro e w' ⟨rfl, z, rfl⟩
      go_wp2_with fail
      refine (HC.out _ ((Ex.refl _).ext z)).mono ?_
      rintro e w' ⟨rfl, z2, rfl⟩
      go_wp2_with fail
      refine (HJ.out _ (((Ex.refl _).ext z).ext z2)).mono ?_
      rintro e w0 ⟨h1, -, hx0⟩
      obtain rfl := h1 Hall.out
      rw [← HJB.out]
      have HX0 : Hid (Ex w w0) := (((Ex.refl _).ext _).ext _).trans hx0
      clear h1 hx0
      go_wp2_with fail
      refine (HW.out _ HX0.out).mono ?_
      rintro e w1 ⟨v1, rfl, hown, hx1⟩
      have hcc : ∃ g c2, v1 = .slice (some ⟨g, 0, none⟩) (N + 1) c2 ∧ At w1 g (wdsV m) ∧ N + 1 ≤ c2 := by
        obtain ⟨g, c2, rfl, hA, -⟩ := At.of hown (Nat.succ_pos N)
        refine ⟨g, c2, rfl, hA, ?_⟩
        rcases hown.2 with ⟨h, -⟩ | ⟨g', cap, cur, h, -, -, hle, -⟩
        · cases h
        · injection h with h1 h2 h3
          subst h3
          exact hle
      obtain ⟨g, c2, rfl, hA, hc2⟩ := hcc
      have HX1 : Hid (Ex w w1) := HX0.out.trans hx1
      have HAt := Lib.hid (fun w' (hx : Ex w1 w') => hA.ex hx)
      have k0 : ∀ o, (w1.alloc o).cell? ⟨g, N * 4, none⟩ = some (.int .i64 4) := fun o => ((HAt.out _ ((Ex.refl w1).alloc o)).word HE1.out).1
      have k1 : ∀ o, (w1.alloc o).cell? ⟨g, N * 4 + 1, none⟩ = some (.string ⟨#[]⟩) := fun o => ((HAt.out _ ((Ex.refl w1).alloc o)).word HE1.out).2.1
      have a0 : ∀ u, (w1.alloc u).cell? ⟨b, o + n * 4, none⟩ = some (.int .i64 kd) := fun u => ((HRx.out _ (HX1.out.alloc u)).word HxN.out).1
      have lg := hA.1
      have lb := (HRx.out _ HX1.out).1
      have HC2 : Hid (N + 1 ≤ c2) := hc2
      clear hx1 hA hown hc2
      go_upto_if 50 with (fail)
      go_cut [8] (fun s8 wx => s8 = .int .i64 N ∧ wx = w1.alloc (.cells #[.int .i64 0, .int .i64 0] 25))
      case first =>
        have h9 : (n : Int) + 1 - 1 = (n : Int) := by omega
        have h8 : IntKind.i64.wrap (n : Int) = (n : Int) := IntWalk.i64_in _ (by omega)
        go_wp2_with fail
        go_meet
        rcases HqN.out with ⟨h1, h2⟩ | ⟨h1, h2⟩
        · exact ⟨by first | (cases h1; done) | (rw [h2]), rfl⟩
        · exact ⟨by first | (cases h1; done) | (rw [h2]; go_num), rfl⟩
      case rest =>
        obtain ⟨rfl, rfl⟩ := hcut
        have t1 : ((N : Int) + 1 != (N : Int) + 1) = false := by simp
        go_wp2_with fail
        go_loopw [84] (fun a wr => ∃ k : Nat, a = .int .i64 k ∧ k ≤ N ∧ Hid (Ex w1 wr)) (fun a _ => N - (intOf a).toNat)
        case atStart => exact ⟨0, rfl, by omega, Lib.hid ((Ex.refl _).alloc _)⟩
        case round =>
          obtain ⟨k, rfl, hk, HX2⟩ := hrel
          by_cases hlt : k < N
          · have n1 : (k : Int) < (N : Int) := by omega
            have n0 : (0 : Int) ≤ (k : Int) := by omega
            have n2 : decide ((k : Int) < (N : Int) + 1) = true := decide_eq_true (by omega)
            have n3 : (k : Int) < (N : Int) + 1 := by omega
            have hkn : k < n + 1 := by rcases HqN.out with ⟨_, h⟩ | ⟨_, h⟩ <;> omega
            have n4 : (k : Int) < (n : Int) + 1 := by omega
            have n5 : k < N + 1 := by omega
            obtain ⟨x, hxk⟩ := HG.out k hlt
            obtain ⟨y, hyk, hy1, hy2⟩ := HMx.out k x hxk
            obtain ⟨b0, b1, b2, b3⟩ := (HRx.out _ (HX1.out.trans HX2.out)).word (HSub.out k x hxk)
            obtain ⟨d0, d1, d2, d3⟩ := (HAt.out _ HX2.out).word hyk
            have lg2 := (HAt.out _ HX2.out).1
            have lb2 := (HRx.out _ (HX1.out.trans HX2.out)).1
            rw [hy1] at d0
            rw [hy2] at d1
            obtain ⟨kx, tx, ax, bx⟩ := x
            dsimp only at b0 b1 d0 d1
            clear b2 b3 d2 d3 hxk hyk hy1 hy2 lg lb k0 k1 a0
            go_wp2_with fail
            refine wp_region_ext (by kernel_rfl) (by kernel_rfl) ?_
            repeat (go_big_quiet_step (fail))
            refine wpQuiet_end (fun z9 => ?_)
            go_wp2_with fail
            refine ⟨⟨k + 1, by go_num, by omega, Lib.hid (HX2.out.ext _)⟩, by simp [intOf]; omega⟩
          · have hkn : k = N := by omega
            subst hkn
            have n1 : decide ((k : Int) < (k : Int)) = false := decide_eq_false (by omega)
            have HRr := Lib.hid (HJ2.out g c2 _ (HX1.out.trans HX2.out) (by have h := (HAt.out _ HX2.out).row; rw [wds_gws] at h; exact h) HC2.out)
            clear hlt lg lb k0 k1 a0 hcp hn t1
            go_wp2_with fail
            refine HRr.out.mono ?_
            rintro e w3 ⟨h1, -, hx3⟩
            obtain rfl := h1 HMr.out
            rw [HMj.out, ← HJB.out]
            have HX3 : Hid (Ex w w3) := (HX1.out.trans HX2.out).trans hx3
            clear h1 hx3
            go_wp2_with fail
            go_ret
            exact Ret.mk (by first | rfl | simp) HX3.out
theorem back_c (v : Value) (w : World) (hE : Env w) (h : (∃ A c, v = .slice A 0 c) ∨ ∃ (b o c n : Nat) (l : List Gw), v = .slice (some ⟨b, o, none⟩) (n + 1) c ∧ l.length = n + 1 ∧ n + 1 ≤ c ∧ Row w b o (gwsV l)) :
    Calls Tryd.prog 8 #[v] w (Ret w (.bool true)) := by
  rcases h with ⟨A, c, rfl⟩ | ⟨b, o, c, n, l, rfl, hl, hc, hR⟩
  · exact back_nil A c w hE
  · by_cases h1 : 200 < n + 1
    · exact back_skip b o c n l w hE hR hl (.inl h1)
    · cases h2 : l.any bigB with
      | true => exact back_skip b o c n l w hE hR hl (.inr h2)
      | false => exact back_row b o c n l w hE hR hl hc (by omega) h2
end Go.Proofs.YtlkebnobcfffeaaDoor
