/-
  Numbers and their texts: what Text and Parse return.
  Conditions: the world's tables are as laid (Env).
-/
import Derived.Test.YtjbfoanboidkbaaDoorNb
import Derived.Test.YtjbfoanboidkbaaDoorNp
import Derived.Test.YtjbfoanboidkbaaDoorShelf
import Derived.Shelf.Strings.SlTrimAscii
import Derived.WalkSmall
import Derived.Lib.SmallJoins
import Derived.Lib.AppendIntMem
namespace Go.Proofs.YtjbfoanboidkbaaDoor
open Go.RowKit Nu
/-- what the library's texts ask of the world -/
def Env (w : World) : Prop := 3 ≤ w.heap.size ∧ Lib.TabIs Tryd.prog w "internal/strconv.uint64pow10" .u64 Lib.pow10Tab ∧ ∃ ev, w.cell? ⟨1, 0, none⟩ = some ev ∧ (ev = .nilIface ∨ ∃ te pe, ev = .iface te pe)
theorem gPow : Tryd.prog.globalNamed "internal/strconv.uint64pow10" = some 2 := by kernel_rfl
theorem Env.ex {w w' : World} (h : Env w) (hx : Ex w w') : Env w' := by
  obtain ⟨h0, h1, ev, h2, h3⟩ := h
  have hb := hx.below
  refine ⟨Nat.le_trans h0 hb.size, var?_below hb gPow (by omega) h1, ev, (hb.cell (p := ⟨1, 0, none⟩) (by show 1 < _; omega)).trans h2, h3⟩
theorem itoa_c (n : Int) (w : World) (hE : Env w) (h : isB n = true) : Calls Tryd.prog 33 #[.int .i64 n] w (Ret w (.string ⟨(Lib.itoa n).toArray⟩)) := by
  rw [isB_iff] at h
  refine (Tryd.strconv_Itoa n (by omega) (by omega) w hE.2.1).mono ?_
  rintro e w' ⟨rfl, k, os, rfl⟩
  exact ⟨rfl, Ex.of (Lib.below_grow _ w (Nat.le_refl _) k os)⟩
def Twos (s : List UInt8) (n : Int) : Value := .tuple #[.string ⟨s.toArray⟩, .int .i64 n]
theorem text_ok (n : Int) (w : World) (hE : Env w) (h : isB n = true) : Calls Tryd.prog 18 #[.int .i64 n] w (Ret w (Twos (Lib.itoa n) 0)) := by
  have H1 := Lib.hid (is_c n)
  have H2 := Lib.hid (fun w' (hx : Ex w w') => itoa_c n w' (hE.ex hx) h)
  rw [h] at H1
  unfold Twos
  clear hE h
  go_enter Tryd.func18, Tryd.ntmps18
  go_wp2_with fail
  refine (H1.out _).mono ?_
  rintro e w' ⟨rfl, z, rfl⟩
  go_wp2_with fail
  refine (H2.out _ ⟨_, rfl⟩).mono ?_
  rintro e w' ⟨rfl, z2, rfl⟩
  go_wp2_with fail
  go_ret2
  exact Ret.mk rfl (((Ex.refl _).ext _).ext _)
theorem text_bad (n : Int) (w : World) (h : isB n = false) : Calls Tryd.prog 18 #[.int .i64 n] w (Ret w (Twos [] 2)) := by
  have H1 := Lib.hid (is_c n)
  rw [h] at H1
  unfold Twos
  clear h
  go_enter Tryd.func18, Tryd.ntmps18
  go_wp2_with fail
  refine (H1.out _).mono ?_
  rintro e w' ⟨rfl, z, rfl⟩
  go_wp2_with fail
  go_ret2
  exact Ret.mk rfl ((Ex.refl _).ext _)
theorem trimP_c (s : ByteArray) (w : World) : Calls Tryd.prog 34 #[.string s, .string ⟨#[45]⟩] w (Ret w (.string ⟨(pdig s.data.toList).toArray⟩)) := by
  refine (Tryd.strings_TrimPrefix s ⟨#[45]⟩ w).mono ?_
  rintro e w' ⟨rfl, rfl⟩
  rw [← pdig_trim]
  exact ⟨rfl, Ex.refl _⟩
theorem trim_c (s : ByteArray) (w : World) (hs : s.size ≤ 1000) : Calls Tryd.prog 35 #[.string s, .string ⟨#[48, 49, 50, 51, 52, 53, 54, 55, 56, 57]⟩] w (Ret w (.string ⟨(Lib.trimS s.data.toList [48, 49, 50, 51, 52, 53, 54, 55, 56, 57]).toArray⟩)) := by
  refine (Any.strings_Trim_laid Tryd.lays160 (by kernel_rfl) s ⟨#[48, 49, 50, 51, 52, 53, 54, 55, 56, 57]⟩ w (by omega) (by decide) (ascii_of_all (by decide))).mono ?_
  rintro e w' ⟨rfl, hb⟩
  exact ⟨rfl, Ex.of hb⟩
/-- the library's parse of a right form: the value and no error; or an error -/
def AtoiR (w : World) (l : List UInt8) (e : Ending) (w' : World) : Prop :=
  (e = .returned (.tuple #[.int .i64 (sgn l (valF 0 (pdig l))), .nilIface]) ∧ Ex w w') ∨ (1125899906842624 < valF 0 (pdig l) ∧ ∃ v N, e = .returned (.tuple #[.int .i64 v, .iface 73 (.pointer (some ⟨N, 0, none⟩))]) ∧ Ex w w')
theorem atoi_c (s : ByteArray) (w : World) (hE : Env w) (hs : s.size ≤ 1000) (h : formOk s.data.toList = true) : Calls Tryd.prog 36 #[.string s] w (AtoiR w s.data.toList) := by
  rcases atoi_form _ h with ⟨h1, h2⟩ | h1
  · obtain ⟨-, -, ev, hv, hev⟩ := hE
    refine (Tryd.strconv_Atoi_range s (by omega) h1 ev w hv hev).mono ?_
    rintro e w' ⟨N, rfl, -, -, hb⟩
    exact .inr ⟨h2, _, N, rfl, Ex.of hb⟩
  · refine (Tryd.strconv_Atoi_ok s (by omega) _ h1 w).mono ?_
    rintro e w' ⟨rfl, hw⟩
    refine .inl ⟨rfl, ?_⟩
    rcases hw with rfl | ⟨t, rfl⟩
    · exact Ex.refl _
    · exact Ex.of (Joins.below_bytesWorld _ w 5 t (Nat.le_refl _))
theorem parse_long (s : ByteArray) (w : World) (h : 100 < s.size) : Calls Tryd.prog 20 #[.string s] w (Ret w (Two 0 5)) := by
  unfold Two
  have h1 : decide (100 < (s.size : Int)) = true := by simp; omega
  go_enter Tryd.func20, Tryd.ntmps20
  go_wp2_with fail
  go_ret2
  exact Ret.mk rfl (Ex.refl _)
theorem size_data (s : ByteArray) : s.size = s.data.toList.length := by show s.data.size = _; rw [Array.length_toList]
theorem pdig_len (l : List UInt8) : (pdig l).length ≤ l.length := by
  unfold pdig
  match l with
  | [] => exact Nat.le_refl _
  | c :: r =>
    dsimp only
    split
    · rw [List.length_cons]; omega
    · exact Nat.le_refl _
theorem of_list {D : ByteArray} {l : List UInt8} (h : D.data.toList = l) : (⟨l.toArray⟩ : ByteArray) = D := by subst h; rfl
theorem parse_empty (s D : ByteArray) (w : World) (h : s.size ≤ 100) (hD : D.data.toList = pdig s.data.toList) (h0 : pdig s.data.toList = []) : Calls Tryd.prog 20 #[.string s] w (Ret w (Two 0 3)) := by
  have h1 : decide (100 < (s.size : Int)) = false := by simp; omega
  have H1 := Lib.hid (fun w => trimP_c s w)
  rw [of_list hD] at H1
  have f1 : D.toList = [] := by rw [Lib.toList_data, hD, h0]
  have f2 : D.toList.isEmpty = true := by rw [f1]; rfl
  clear hD h0 f1
  unfold Two
  go_enter Tryd.func20, Tryd.ntmps20
  go_wp2_with fail
  refine (H1.out _).mono ?_
  rintro e w' ⟨rfl, z, rfl⟩
  go_wp2_with fail
  go_ret2
  exact Ret.mk rfl ((Ex.refl _).ext _)
theorem parse_nodig (s D T : ByteArray) (w : World) (h : s.size ≤ 100) (hD : D.data.toList = pdig s.data.toList) (h0 : pdig s.data.toList ≠ []) (hT : T.data.toList = Lib.trimS D.data.toList [48, 49, 50, 51, 52, 53, 54, 55, 56, 57]) (hn : (pdig s.data.toList).all isDig = false) : Calls Tryd.prog 20 #[.string s] w (Ret w (Two 0 3)) := by
  have h1 : decide (100 < (s.size : Int)) = false := by simp; omega
  have hs : D.size ≤ 100 := by rw [size_data, hD]; have := pdig_len s.data.toList; rw [size_data] at h; omega
  have H1 := Lib.hid (fun w => trimP_c s w)
  rw [of_list hD] at H1
  have H2 := Lib.hid (fun w => trim_c D w (by omega))
  rw [of_list hT] at H2
  have f2 : D.toList.isEmpty = false := by rw [Lib.toList_data, hD]; simpa using h0
  have f3 : T.toList.isEmpty = false := by rw [Lib.toList_data, hT, trim_dig, hD, hn]
  clear hD h0 hT hn
  unfold Two
  go_enter Tryd.func20, Tryd.ntmps20
  go_wp2_with fail
  refine (H1.out _).mono ?_
  rintro e w' ⟨rfl, z, rfl⟩
  go_wp2_with fail
  refine (H2.out _).mono ?_
  rintro e w' ⟨rfl, z2, rfl⟩
  go_wp2_with fail
  go_ret2
  exact Ret.mk rfl (((Ex.refl _).ext _).ext _)
theorem head_dig {D : ByteArray} {l : List UInt8} (hD : D.data.toList = l) (h : 0 < D.size) : l.head? = some D[0] := by
  subst hD
  rw [List.head?_eq_getElem?, Array.getElem?_toList]
  exact Array.getElem?_eq_getElem h
theorem parse_zero (s D T : ByteArray) (w : World) (h : s.size ≤ 100) (hD : D.data.toList = pdig s.data.toList) (h0 : pdig s.data.toList ≠ []) (hT : T.data.toList = Lib.trimS D.data.toList [48, 49, 50, 51, 52, 53, 54, 55, 56, 57]) (hn : (pdig s.data.toList).all isDig = true)
    (f4 : 0 < D.size) (f5 : ((D[0].toNat : Int) == 48) = true) (f6 : (!s.toList == [48]) = true) : Calls Tryd.prog 20 #[.string s] w (Ret w (Two 0 3)) := by
  have h1 : decide (100 < (s.size : Int)) = false := by simp; omega
  have hs : D.size ≤ 100 := by rw [size_data, hD]; have := pdig_len s.data.toList; rw [size_data] at h; omega
  have H1 := Lib.hid (fun w => trimP_c s w)
  rw [of_list hD] at H1
  have H2 := Lib.hid (fun w => trim_c D w (by omega))
  rw [of_list hT] at H2
  have f2 : D.toList.isEmpty = false := by rw [Lib.toList_data, hD]; simpa using h0
  have f3 : T.toList.isEmpty = true := by rw [Lib.toList_data, hT, trim_dig, hD, hn]
  clear hD h0 hT hn
  unfold Two
  go_enter Tryd.func20, Tryd.ntmps20
  go_wp2_with fail
  refine (H1.out _).mono ?_
  rintro e w' ⟨rfl, z, rfl⟩
  go_wp2_with fail
  refine (H2.out _).mono ?_
  rintro e w' ⟨rfl, z2, rfl⟩
  go_wp2_with fail
  go_ret2
  exact Ret.mk rfl (((Ex.refl _).ext _).ext _)
set_option maxHeartbeats 400000 in
theorem parse_form (s D T : ByteArray) (w : World) (hE : Env w) (h : s.size ≤ 100) (hD : D.data.toList = pdig s.data.toList) (h0 : pdig s.data.toList ≠ []) (hT : T.data.toList = Lib.trimS D.data.toList [48, 49, 50, 51, 52, 53, 54, 55, 56, 57]) (hn : (pdig s.data.toList).all isDig = true)
    (f4 : 0 < D.size) (f5 : (((D[0].toNat : Int) == 48) = true ∧ (!s.toList == [48]) = false) ∨ ((D[0].toNat : Int) == 48) = false) (hf : formOk s.data.toList = true) : Calls Tryd.prog 20 #[.string s] w (Ret w (Two (parV s.data.toList) (parE s.data.toList))) := by
  have h1 : decide (100 < (s.size : Int)) = false := by simp; omega
  have hs : D.size ≤ 100 := by rw [size_data, hD]; have := pdig_len s.data.toList; rw [size_data] at h; omega
  have H1 := Lib.hid (fun w => trimP_c s w)
  rw [of_list hD] at H1
  have H2 := Lib.hid (fun w => trim_c D w (by omega))
  rw [of_list hT] at H2
  have H3 := Lib.hid (fun w' (hx : Ex w w') => atoi_c s w' (hE.ex hx) (by omega) hf)
  have H4 := Lib.hid (limited_c (sgn s.data.toList (valF 0 (pdig s.data.toList))))
  have f2 : D.toList.isEmpty = false := by rw [Lib.toList_data, hD]; simpa using h0
  have f3 : T.toList.isEmpty = true := by rw [Lib.toList_data, hT, trim_dig, hD, hn]
  have HB : Hid (1125899906842624 < valF 0 (pdig s.data.toList) → parV s.data.toList = 0 ∧ parE s.data.toList = 9) := fun hb => by
    unfold parV parE
    rw [if_pos hf, if_pos hf, if_neg (by omega), if_neg (by omega)]
    exact ⟨rfl, rfl⟩
  have hsg : ∀ x : Nat, isB (sgn s.data.toList x) = decide (x ≤ 1125899906842624) := fun x => by
    rw [Bool.eq_iff_iff, isB_iff, decide_eq_true_eq]
    unfold sgn
    split <;> omega
  have HL : Hid (limV (sgn s.data.toList (valF 0 (pdig s.data.toList))) = parV s.data.toList ∧ limE (sgn s.data.toList (valF 0 (pdig s.data.toList))) = parE s.data.toList) := by
    show _ ∧ _
    unfold parV parE limV limE
    rw [if_pos hf, if_pos hf, hsg]
    by_cases hb : valF 0 (pdig s.data.toList) ≤ 1125899906842624
    · rw [if_pos hb, if_pos hb]; simp [hb]
    · rw [if_neg hb, if_neg hb]; simp [hb]
  unfold AtoiR at H3
  clear hD h0 hT hn hE hf hsg
  unfold Two at *
  generalize sgn s.data.toList (valF 0 (pdig s.data.toList)) = v at *
  generalize valF 0 (pdig s.data.toList) = n at *
  generalize parV s.data.toList = V at *
  generalize parE s.data.toList = E at *
  rcases f5 with ⟨f5, f6⟩ | f5
  all_goals
    go_enter Tryd.func20, Tryd.ntmps20
    go_wp2_with fail
    refine (H1.out _).mono ?_
    rintro e w' ⟨rfl, z, rfl⟩
    go_wp2_with fail
    refine (H2.out _).mono ?_
    rintro e w' ⟨rfl, z2, rfl⟩
    go_wp2_with fail
    refine (H3.out _ (((Ex.refl _).ext _).ext _)).mono ?_
    rintro e w' (⟨rfl, hx⟩ | ⟨hbig, x, N, rfl, hx⟩)
    · have HX := Lib.hid ((((Ex.refl w).ext z).ext z2).trans hx)
      clear hx
      go_wp2_with fail
      refine (H4.out _).mono ?_
      rintro e w' ⟨rfl, z3, rfl⟩
      go_wp2_with fail
      go_ret2
      exact Ret.mk (by rw [← HL.out.1, ← HL.out.2]; rfl) (HX.out.ext _)
    · have HX := Lib.hid ((((Ex.refl w).ext z).ext z2).trans hx)
      clear hx
      obtain ⟨e1, e2⟩ := HB.out hbig
      subst e1 e2
      go_wp2_with fail
      go_ret2
      exact Ret.mk rfl HX.out
theorem parse_c (s : ByteArray) (w : World) (hE : Env w) (h : s.size ≤ 100) : Calls Tryd.prog 20 #[.string s] w (Ret w (Two (parV s.data.toList) (parE s.data.toList))) := by
  obtain ⟨D, hD⟩ : ∃ D : ByteArray, D.data.toList = pdig s.data.toList := ⟨⟨(pdig s.data.toList).toArray⟩, rfl⟩
  obtain ⟨T, hT⟩ : ∃ T : ByteArray, T.data.toList = Lib.trimS D.data.toList [48, 49, 50, 51, 52, 53, 54, 55, 56, 57] := ⟨⟨(Lib.trimS D.data.toList [48, 49, 50, 51, 52, 53, 54, 55, 56, 57]).toArray⟩, rfl⟩
  by_cases h0 : pdig s.data.toList = []
  · have e : formOk s.data.toList = false := by unfold formOk; simp [h0]
    have e1 : parV s.data.toList = 0 := by unfold parV; rw [e]; rfl
    have e2 : parE s.data.toList = 3 := by unfold parE; rw [e]; rfl
    rw [e1, e2]
    exact parse_empty s D w h hD h0
  · cases hn : (pdig s.data.toList).all isDig
    · have e : formOk s.data.toList = false := by unfold formOk; simp [hn]
      have e1 : parV s.data.toList = 0 := by unfold parV; rw [e]; rfl
      have e2 : parE s.data.toList = 3 := by unfold parE; rw [e]; rfl
      rw [e1, e2]
      exact parse_nodig s D T w h hD h0 hT hn
    · have f4 : 0 < D.size := by rw [size_data, hD]; exact List.length_pos_iff.2 h0
      have hh := head_dig hD f4
      have hz : ((D[0].toNat : Int) == 48) = decide (D[0] = 48) := by
        rw [Bool.eq_iff_iff, beq_iff_eq, decide_eq_true_eq, ← UInt8.toNat_inj]
        show _ ↔ D[0].toNat = 48
        omega
      have hs48 : (!s.toList == [48]) = decide (s.data.toList ≠ [48]) := by
        rw [Lib.toList_data, Bool.eq_iff_iff]; simp
      have hform : formOk s.data.toList = !(decide (D[0] = 48) && decide (s.data.toList ≠ [48])) := by
        unfold formOk
        rw [hn, hh]
        simp [h0]
      by_cases h5 : D[0] = 48
      · by_cases h6 : s.data.toList = [48]
        · exact parse_form s D T w hE h hD h0 hT hn f4 (.inl ⟨by rw [hz]; simpa using h5, by rw [hs48]; simpa using h6⟩) (by rw [hform]; simp [h6])
        · have e : formOk s.data.toList = false := by rw [hform]; simp [h5, h6]
          have e1 : parV s.data.toList = 0 := by unfold parV; rw [e]; rfl
          have e2 : parE s.data.toList = 3 := by unfold parE; rw [e]; rfl
          rw [e1, e2]
          exact parse_zero s D T w h hD h0 hT hn f4 (by rw [hz]; simpa using h5) (by rw [hs48]; simpa using h6)
      · exact parse_form s D T w hE h hD h0 hT hn f4 (.inr (by rw [hz]; simpa using h5)) (by rw [hform]; simp [h5])
end Go.Proofs.YtjbfoanboidkbaaDoor
