/-
  The walk of the law Back.
  Conditions: the world's tables are as laid (Env).
-/
import Derived.Test.YtjbfoanboidkbaaDoorNf
import Derived.Test.YtjbfoanboidkbaaDoorNs
import Derived.Lib.ConvBytes
import Derived.Lib.ItoaLen
namespace Go.Proofs.YtjbfoanboidkbaaDoor
open Go.RowKit Nu Bn
def bytesV (l : List UInt8) : List Value := l.map (fun b => .int .u8 (b.toNat : Int))
set_option maxHeartbeats 800000 in
/-- no such byte -/
theorem index_none (l : List UInt8) (A : Option Addr) (c : Nat) (w : World) (hC : Cells w A (bytesV l)) (h : ∀ b ∈ l, b ≠ 43) (hl : l.length ≤ 1000) : Calls Tryd.prog 38 #[.slice A l.length c, .int .u8 43] w (Ret w (.int .i64 (-1))) := by
  have HC : Hid (∀ w', Ex w w' → ∀ k, k < l.length → ∃ ad x, A = some ad ∧ (ad.add k).block < w'.heap.size ∧ w'.cell? (ad.add k) = some (.int .u8 ((x : Nat) : Int)) ∧ x ≠ 43) := fun w' hx k hk => by
    obtain ⟨ad, e, hb, hc⟩ := hC k (.int .u8 (l[k].toNat : Int)) (by unfold bytesV; rw [List.getElem?_map, List.getElem?_eq_getElem hk]; rfl)
    exact ⟨ad, l[k].toNat, e, Nat.lt_of_lt_of_le hb hx.below.size, (hx.below.cell hb).trans hc, fun e => h _ (List.getElem_mem hk) (u8_eq e)⟩
  clear hC h
  generalize l.length = m at *
  go_enter Tryd.func38, Tryd.ntmps38
  go_wp2_with fail
  go_loopw [5, 8] (fun _ i wr => ∃ k : Nat, i = .int .i64 k ∧ k ≤ m ∧ Ex w wr) (fun _ i _ => m - (intOf i).toNat)
  case atStart => exact ⟨0, rfl, by omega, Ex.refl _⟩
  case round =>
    obtain ⟨k, rfl, hk, hx⟩ := hrel
    by_cases hlt : k < m
    · obtain ⟨ad, x, rfl, -, hc, hne⟩ := HC.out _ hx k hlt
      have hki : (k : Int) < (m : Int) := by omega
      have b1 : ((43 : Int) == (x : Int)) = false := by simp; omega
      have HX := Lib.hid hx
      clear hx
      go_wp2_with fail
      refine ⟨⟨k + 1, by go_num, by omega, HX.out⟩, by simp [intOf]; omega⟩
    · obtain rfl : k = m := by omega
      go_wp2_with fail
      go_ret
      exact Ret.mk rfl hx
theorem contains_none (l : List UInt8) (A : Option Addr) (c : Nat) (w : World) (hC : Cells w A (bytesV l)) (h : ∀ b ∈ l, b ≠ 43) (hl : l.length ≤ 1000) : Calls Tryd.prog 22 #[.slice A l.length c, .int .u8 43] w (Ret w (.bool false)) := by
  have H := Lib.hid (index_none l A c w hC h hl)
  clear hC h
  generalize l.length = m at *
  go_enter Tryd.func22, Tryd.ntmps22
  go_wp2_with fail
  refine H.out.mono ?_
  rintro e w' ⟨rfl, z, rfl⟩
  go_wp2_with fail
  go_ret
  exact Ret.mk rfl ((Ex.refl _).ext _)
theorem add_plain' (b off j : Nat) : (⟨b, off, none⟩ : Addr).add j = ⟨b, off + j, none⟩ := by
  unfold Addr.add
  split
  · rename_i h; rw [h]; rfl
  · rfl
theorem text_bytes (w : World) (T : ByteArray) : Cells (Lib.bytesWorld w 5 T) (some ⟨w.heap.size, 0, none⟩) (bytesV T.data.toList) := fun j u hj => by
  unfold bytesV at hj
  rw [List.getElem?_map] at hj
  cases hx : T.data.toList[j]? with
  | none => rw [hx] at hj; cases hj
  | some b =>
    rw [hx] at hj
    injection hj with hj
    have hlt : j < T.size := by
      rw [size_data]
      exact (List.getElem?_eq_some_iff.1 hx).1
    have hc := Lib.bytesWorld_cell w 5 T j hlt
    rw [List.getD_eq_getElem?_getD, hx] at hc
    refine ⟨_, rfl, ?_, ?_⟩
    · rw [add_plain']
      show w.heap.size < _
      rw [Lib.bytesWorld_size]
      omega
    · rw [add_plain', Nat.zero_add, ← hj]
      exact hc
theorem conv_str (W : World) (s : ByteArray) : Sem.run Tryd.prog (convert 9 40 (.string s)) W = .ok (.slice (some ⟨W.heap.size, 0, none⟩) s.size (grownCap W s.size 0 5)) (Lib.bytesWorld W 5 s) :=
  Lib.run_convert_string_bytes W 9 40 5 s Tryd.underlying9 Tryd.underlying40 Tryd.underlying5
attribute [local go_sem] conv_str
theorem back_long (n m : Int) (s : ByteArray) (w : World) (hE : Env w) (h : 100 < s.size) : Calls Tryd.prog 7 #[.int .i64 n, .int .i64 m, .string s] w (Ret w (.bool true)) := by
  have HA := Lib.hid (fun w' (hx : Ex w w') => awake_c w' (hE.ex hx))
  have d1 : decide ((100 : Int) < (s.size : Int)) = true := decide_eq_true (by omega)
  clear hE
  go_enter Tryd.func7, Tryd.ntmps7
  go_wp2_with fail
  refine (HA.out _ (Ex.refl _)).mono ?_; rintro e w' ⟨rfl, z0, rfl⟩
  go_wp2_with fail
  go_ret
  exact Ret.mk rfl ((Ex.refl _).ext _)
theorem itoa_size (n : Int) (h : isB n = true) : (Lib.itoa n).length ≤ 100 := by
  rw [isB_iff] at h
  have := Lib.itoa_length_le n (by omega) (by omega)
  omega
set_option maxRecDepth 100000 in
set_option maxHeartbeats 8000000 in
theorem back_c (n m : Int) (s : ByteArray) (w : World) (hE : Env w) : Calls Tryd.prog 7 #[.int .i64 n, .int .i64 m, .string s] w (Ret w (.bool true)) := by
  by_cases h100 : 100 < s.size
  · exact back_long n m s w hE h100
  have HA := Lib.hid (fun w' (hx : Ex w w') => awake_c w' (hE.ex hx))
  have d1 : decide ((100 : Int) < (s.size : Int)) = false := decide_eq_false (by omega)
  have HN : ∀ k : Int, isB k = true → ∃ (T : ByteArray), T.data.toList = Lib.itoa k ∧ Hid (∀ w', Ex w w' → Calls Tryd.prog 18 #[.int .i64 k] w' (Ret w' (.tuple #[.string T, .int .i64 0]))) ∧ Hid (∀ w', Ex w w' → Calls Tryd.prog 20 #[.string T] w' (Ret w' (.tuple #[.int .i64 k, .int .i64 0]))) := by
    intro k hk
    refine ⟨⟨(Lib.itoa k).toArray⟩, rfl, fun w' hx => text_ok k w' (hE.ex hx) hk, fun w' hx => ?_⟩
    have h1 := parse_c ⟨(Lib.itoa k).toArray⟩ w' (hE.ex hx) (by rw [size_data]; exact itoa_size k hk)
    have h2 := par_itoa k ((isB_iff k).1 hk)
    have e : (⟨(Lib.itoa k).toArray⟩ : ByteArray).data.toList = Lib.itoa k := rfl
    rw [e, h2.1, h2.2] at h1
    exact h1
  have HB : ∀ k : Int, isB k = false → Hid (∀ w', Calls Tryd.prog 18 #[.int .i64 k] w' (Ret w' (.tuple #[.string ⟨#[]⟩, .int .i64 2]))) := fun k hk w' => text_bad k w' hk
  have HP := Lib.hid (fun w' (hx : Ex w w') => parse_c s w' (hE.ex hx) (by omega))
  have HS : (parE s.data.toList ≠ 0 ∧ parV s.data.toList = 0) ∨ (parE s.data.toList = 0 ∧ Hid (∀ w', Ex w w' → Calls Tryd.prog 18 #[.int .i64 (parV s.data.toList)] w' (Ret w' (.tuple #[.string s, .int .i64 0]))) ∧ Hid (∀ b ∈ s.data.toList, b ≠ 43)) := by
    by_cases he : parE s.data.toList = 0
    · right
      obtain ⟨h1, h2⟩ := itoa_par _ he
      refine ⟨he, fun w' hx => ?_, ?_⟩
      · have h3 := text_ok (parV s.data.toList) w' (hE.ex hx) ((isB_iff _).2 h2)
        rw [h1] at h3
        exact h3
      · rw [← h1]; exact itoa_plus _
    · exact .inl ⟨he, parV_bad _ he⟩
  have HC : Hid (∀ w', (∀ b ∈ s.data.toList, b ≠ 43) → ∀ c, Calls Tryd.prog 22 #[.slice (some ⟨w'.heap.size, 0, none⟩) s.size c, .int .u8 43] (Lib.bytesWorld w' 5 s) (Ret (Lib.bytesWorld w' 5 s) (.bool false))) := fun w' hb c => by
    have := contains_none s.data.toList (some ⟨w'.heap.size, 0, none⟩) c _ (text_bytes w' s) hb (by rw [← size_data]; omega)
    rwa [← size_data] at this
  have hs100 : s.size ≤ 100 := by omega
  unfold Two at *
  clear hE
  generalize parV s.data.toList = V at *
  generalize parE s.data.toList = E at *
  have HS' := Lib.hid HS
  clear HS
  have HS := HS'
  clear HS'
  cases hn : isB n
  · have N1 := HB n hn
    cases hm : isB m
    · have M1 := HB m hm
      clear hn hm HN HB
      go_enter Tryd.func7, Tryd.ntmps7
      go_wp2_with fail
      refine (HA.out _ (Ex.refl _)).mono ?_; rintro e w' ⟨rfl, z0, rfl⟩
      go_wp2_with fail
      refine (N1.out _).mono ?_; rintro e w' ⟨rfl, z1, rfl⟩
      go_wp2_with fail
      refine (M1.out _).mono ?_; rintro e w' ⟨rfl, z2, rfl⟩
      go_wp2_with fail
      refine (HP.out _ (by repeat (first | exact Ex.refl _ | apply Ex.ext))).mono ?_; rintro e w' ⟨rfl, zp, rfl⟩
      rcases HS.out with ⟨hE0, rfl⟩ | ⟨rfl, V1, V2⟩
      · have c1 : (E == 0) = false := by simpa using hE0
        have c2 : (E != 0) = true := by simpa using hE0
        clear hE0
        go_wp2_with fail
        go_ret
        exact Ret.mk (by simp) (by repeat (first | exact Ex.refl _ | apply Ex.ext))
      · go_wp2_with fail
        refine (V1.out _ (by repeat (first | exact Ex.refl _ | apply Ex.ext))).mono ?_; rintro e w' ⟨rfl, zq, rfl⟩
        go_wp2_with fail
        refine (HC.out _ V2.out _).mono ?_
        rintro e w' ⟨rfl, hx⟩
        have HX := Lib.hid ((Ex.of (Joins.below_bytesWorld _ _ 5 s (Nat.le_refl _))).trans hx)
        clear hx
        go_wp2_with fail
        go_ret
        exact Ret.mk (by simp) (Ex.trans (by repeat (first | exact Ex.refl _ | apply Ex.ext)) HX.out)
    · obtain ⟨T2, t2, M1, -⟩ := HN m hm
      clear hn hm HN HB t2
      go_enter Tryd.func7, Tryd.ntmps7
      go_wp2_with fail
      refine (HA.out _ (Ex.refl _)).mono ?_; rintro e w' ⟨rfl, z0, rfl⟩
      go_wp2_with fail
      refine (N1.out _).mono ?_; rintro e w' ⟨rfl, z1, rfl⟩
      go_wp2_with fail
      refine (M1.out _ (by repeat (first | exact Ex.refl _ | apply Ex.ext))).mono ?_; rintro e w' ⟨rfl, z2, rfl⟩
      go_wp2_with fail
      refine (HP.out _ (by repeat (first | exact Ex.refl _ | apply Ex.ext))).mono ?_; rintro e w' ⟨rfl, zp, rfl⟩
      rcases HS.out with ⟨hE0, rfl⟩ | ⟨rfl, V1, V2⟩
      · have c1 : (E == 0) = false := by simpa using hE0
        have c2 : (E != 0) = true := by simpa using hE0
        clear hE0
        go_wp2_with fail
        go_ret
        exact Ret.mk (by simp) (by repeat (first | exact Ex.refl _ | apply Ex.ext))
      · go_wp2_with fail
        refine (V1.out _ (by repeat (first | exact Ex.refl _ | apply Ex.ext))).mono ?_; rintro e w' ⟨rfl, zq, rfl⟩
        go_wp2_with fail
        refine (HC.out _ V2.out _).mono ?_
        rintro e w' ⟨rfl, hx⟩
        have HX := Lib.hid ((Ex.of (Joins.below_bytesWorld _ _ 5 s (Nat.le_refl _))).trans hx)
        clear hx
        go_wp2_with fail
        go_ret
        exact Ret.mk (by simp) (Ex.trans (by repeat (first | exact Ex.refl _ | apply Ex.ext)) HX.out)
  · obtain ⟨T1, t1, N1, N2⟩ := HN n hn
    cases hm : isB m
    · have M1 := HB m hm
      clear hn hm HN HB t1
      go_enter Tryd.func7, Tryd.ntmps7
      go_wp2_with fail
      refine (HA.out _ (Ex.refl _)).mono ?_; rintro e w' ⟨rfl, z0, rfl⟩
      go_wp2_with fail
      refine (N1.out _ (by repeat (first | exact Ex.refl _ | apply Ex.ext))).mono ?_; rintro e w' ⟨rfl, z1, rfl⟩
      go_wp2_with fail
      refine (M1.out _).mono ?_; rintro e w' ⟨rfl, z2, rfl⟩
      go_wp2_with fail
      refine (N2.out _ (by repeat (first | exact Ex.refl _ | apply Ex.ext))).mono ?_; rintro e w' ⟨rfl, z3, rfl⟩
      go_wp2_with fail
      refine (HP.out _ (by repeat (first | exact Ex.refl _ | apply Ex.ext))).mono ?_; rintro e w' ⟨rfl, zp, rfl⟩
      rcases HS.out with ⟨hE0, rfl⟩ | ⟨rfl, V1, V2⟩
      · have c1 : (E == 0) = false := by simpa using hE0
        have c2 : (E != 0) = true := by simpa using hE0
        clear hE0
        go_wp2_with fail
        go_ret
        exact Ret.mk (by simp) (by repeat (first | exact Ex.refl _ | apply Ex.ext))
      · go_wp2_with fail
        refine (V1.out _ (by repeat (first | exact Ex.refl _ | apply Ex.ext))).mono ?_; rintro e w' ⟨rfl, zq, rfl⟩
        go_wp2_with fail
        refine (HC.out _ V2.out _).mono ?_
        rintro e w' ⟨rfl, hx⟩
        have HX := Lib.hid ((Ex.of (Joins.below_bytesWorld _ _ 5 s (Nat.le_refl _))).trans hx)
        clear hx
        go_wp2_with fail
        go_ret
        exact Ret.mk (by simp) (Ex.trans (by repeat (first | exact Ex.refl _ | apply Ex.ext)) HX.out)
    · obtain ⟨T2, t2, M1, -⟩ := HN m hm
      have HL : Hid (decide (0 < n) = true → decide (0 < m) = true → ((T1.size : Int) == (T2.size : Int)) = true → Op.bytesLess T1.toList T2.toList = decide (n < m)) := fun h1 h2 h3 => by
        simp only [decide_eq_true_eq] at h1 h2
        have h4 := beq_iff_eq.1 h3
        rw [Lib.toList_data, Lib.toList_data, t1, t2]
        refine less_itoa h1 h2 ?_
        rw [← t1, ← t2, ← size_data, ← size_data]
        omega
      clear hn hm HN HB t1 t2
      cases p1 : decide (0 < n)
      · go_enter Tryd.func7, Tryd.ntmps7
        go_wp2_with fail
        refine (HA.out _ (Ex.refl _)).mono ?_; rintro e w' ⟨rfl, z0, rfl⟩
        go_wp2_with fail
        refine (N1.out _ (by repeat (first | exact Ex.refl _ | apply Ex.ext))).mono ?_; rintro e w' ⟨rfl, z1, rfl⟩
        go_wp2_with fail
        refine (M1.out _ (by repeat (first | exact Ex.refl _ | apply Ex.ext))).mono ?_; rintro e w' ⟨rfl, z2, rfl⟩
        go_wp2_with fail
        refine (N2.out _ (by repeat (first | exact Ex.refl _ | apply Ex.ext))).mono ?_; rintro e w' ⟨rfl, z3, rfl⟩
        go_wp2_with fail
        refine (HP.out _ (by repeat (first | exact Ex.refl _ | apply Ex.ext))).mono ?_; rintro e w' ⟨rfl, zp, rfl⟩
        rcases HS.out with ⟨hE0, rfl⟩ | ⟨rfl, V1, V2⟩
        · have c1 : (E == 0) = false := by simpa using hE0
          have c2 : (E != 0) = true := by simpa using hE0
          clear hE0
          go_wp2_with fail
          go_ret
          exact Ret.mk (by simp) (by repeat (first | exact Ex.refl _ | apply Ex.ext))
        · go_wp2_with fail
          refine (V1.out _ (by repeat (first | exact Ex.refl _ | apply Ex.ext))).mono ?_; rintro e w' ⟨rfl, zq, rfl⟩
          go_wp2_with fail
          refine (HC.out _ V2.out _).mono ?_
          rintro e w' ⟨rfl, hx⟩
          have HX := Lib.hid ((Ex.of (Joins.below_bytesWorld _ _ 5 s (Nat.le_refl _))).trans hx)
          clear hx
          go_wp2_with fail
          go_ret
          exact Ret.mk (by simp) (Ex.trans (by repeat (first | exact Ex.refl _ | apply Ex.ext)) HX.out)
      · cases p2 : decide (0 < m)
        · go_enter Tryd.func7, Tryd.ntmps7
          go_wp2_with fail
          refine (HA.out _ (Ex.refl _)).mono ?_; rintro e w' ⟨rfl, z0, rfl⟩
          go_wp2_with fail
          refine (N1.out _ (by repeat (first | exact Ex.refl _ | apply Ex.ext))).mono ?_; rintro e w' ⟨rfl, z1, rfl⟩
          go_wp2_with fail
          refine (M1.out _ (by repeat (first | exact Ex.refl _ | apply Ex.ext))).mono ?_; rintro e w' ⟨rfl, z2, rfl⟩
          go_wp2_with fail
          refine (N2.out _ (by repeat (first | exact Ex.refl _ | apply Ex.ext))).mono ?_; rintro e w' ⟨rfl, z3, rfl⟩
          go_wp2_with fail
          refine (HP.out _ (by repeat (first | exact Ex.refl _ | apply Ex.ext))).mono ?_; rintro e w' ⟨rfl, zp, rfl⟩
          rcases HS.out with ⟨hE0, rfl⟩ | ⟨rfl, V1, V2⟩
          · have c1 : (E == 0) = false := by simpa using hE0
            have c2 : (E != 0) = true := by simpa using hE0
            clear hE0
            go_wp2_with fail
            go_ret
            exact Ret.mk (by simp) (by repeat (first | exact Ex.refl _ | apply Ex.ext))
          · go_wp2_with fail
            refine (V1.out _ (by repeat (first | exact Ex.refl _ | apply Ex.ext))).mono ?_; rintro e w' ⟨rfl, zq, rfl⟩
            go_wp2_with fail
            refine (HC.out _ V2.out _).mono ?_
            rintro e w' ⟨rfl, hx⟩
            have HX := Lib.hid ((Ex.of (Joins.below_bytesWorld _ _ 5 s (Nat.le_refl _))).trans hx)
            clear hx
            go_wp2_with fail
            go_ret
            exact Ret.mk (by simp) (Ex.trans (by repeat (first | exact Ex.refl _ | apply Ex.ext)) HX.out)
        · cases p3 : ((T1.size : Int) == (T2.size : Int))
          · go_enter Tryd.func7, Tryd.ntmps7
            go_wp2_with fail
            refine (HA.out _ (Ex.refl _)).mono ?_; rintro e w' ⟨rfl, z0, rfl⟩
            go_wp2_with fail
            refine (N1.out _ (by repeat (first | exact Ex.refl _ | apply Ex.ext))).mono ?_; rintro e w' ⟨rfl, z1, rfl⟩
            go_wp2_with fail
            refine (M1.out _ (by repeat (first | exact Ex.refl _ | apply Ex.ext))).mono ?_; rintro e w' ⟨rfl, z2, rfl⟩
            go_wp2_with fail
            refine (N2.out _ (by repeat (first | exact Ex.refl _ | apply Ex.ext))).mono ?_; rintro e w' ⟨rfl, z3, rfl⟩
            go_wp2_with fail
            refine (HP.out _ (by repeat (first | exact Ex.refl _ | apply Ex.ext))).mono ?_; rintro e w' ⟨rfl, zp, rfl⟩
            rcases HS.out with ⟨hE0, rfl⟩ | ⟨rfl, V1, V2⟩
            · have c1 : (E == 0) = false := by simpa using hE0
              have c2 : (E != 0) = true := by simpa using hE0
              clear hE0
              go_wp2_with fail
              go_ret
              exact Ret.mk (by simp) (by repeat (first | exact Ex.refl _ | apply Ex.ext))
            · go_wp2_with fail
              refine (V1.out _ (by repeat (first | exact Ex.refl _ | apply Ex.ext))).mono ?_; rintro e w' ⟨rfl, zq, rfl⟩
              go_wp2_with fail
              refine (HC.out _ V2.out _).mono ?_
              rintro e w' ⟨rfl, hx⟩
              have HX := Lib.hid ((Ex.of (Joins.below_bytesWorld _ _ 5 s (Nat.le_refl _))).trans hx)
              clear hx
              go_wp2_with fail
              go_ret
              exact Ret.mk (by simp) (Ex.trans (by repeat (first | exact Ex.refl _ | apply Ex.ext)) HX.out)
          · have p4 := HL.out p1 p2 p3
            go_enter Tryd.func7, Tryd.ntmps7
            go_wp2_with fail
            refine (HA.out _ (Ex.refl _)).mono ?_; rintro e w' ⟨rfl, z0, rfl⟩
            go_wp2_with fail
            refine (N1.out _ (by repeat (first | exact Ex.refl _ | apply Ex.ext))).mono ?_; rintro e w' ⟨rfl, z1, rfl⟩
            go_wp2_with fail
            refine (M1.out _ (by repeat (first | exact Ex.refl _ | apply Ex.ext))).mono ?_; rintro e w' ⟨rfl, z2, rfl⟩
            go_wp2_with fail
            refine (N2.out _ (by repeat (first | exact Ex.refl _ | apply Ex.ext))).mono ?_; rintro e w' ⟨rfl, z3, rfl⟩
            go_wp2_with fail
            refine (HP.out _ (by repeat (first | exact Ex.refl _ | apply Ex.ext))).mono ?_; rintro e w' ⟨rfl, zp, rfl⟩
            rcases HS.out with ⟨hE0, rfl⟩ | ⟨rfl, V1, V2⟩
            · have c1 : (E == 0) = false := by simpa using hE0
              have c2 : (E != 0) = true := by simpa using hE0
              clear hE0
              go_wp2_with fail
              go_ret
              exact Ret.mk (by simp) (by repeat (first | exact Ex.refl _ | apply Ex.ext))
            · go_wp2_with fail
              refine (V1.out _ (by repeat (first | exact Ex.refl _ | apply Ex.ext))).mono ?_; rintro e w' ⟨rfl, zq, rfl⟩
              go_wp2_with fail
              refine (HC.out _ V2.out _).mono ?_
              rintro e w' ⟨rfl, hx⟩
              have HX := Lib.hid ((Ex.of (Joins.below_bytesWorld _ _ 5 s (Nat.le_refl _))).trans hx)
              clear hx
              go_wp2_with fail
              go_ret
              exact Ret.mk (by simp) (Ex.trans (by repeat (first | exact Ex.refl _ | apply Ex.ext)) HX.out)
end Go.Proofs.YtjbfoanboidkbaaDoor
