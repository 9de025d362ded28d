/-
  The reference's written trees, and the functions of its texts that take no tree, walked. The reference's written and Written: their contracts; and that the program's Valid says the same, plain. The reference's Text and at, walked. The small functions of the reference's parser, walked.
  Conditions: as each theorem says.
-/
import Derived.Test.YthjalkonlcjhnaaGreatDoorTl
import Derived.Test.YthjalkonlcjhnaaGreatDoorRc
import Derived.Deep.RegionWith
import Derived.Laws.IdiomStrings
import Derived.Lib.ItoaLen
import Derived.Lib.ItoaMem
import Derived.Test.YthjalkonlcjhnaaGreatDoorQr
namespace Go.Proofs.YthjalkonlcjhnaaGreatDoor
open Go.RowKit
theorem rWord_c (s : ByteArray) (w : World) (h : s.size ≤ maxLen) : Calls Tryz.prog 72 #[.string s] w (Ret w (.bool (wordB s))) := by
  have HN := Lib.hid (fun w => rIsNameL_c s w h)
  have HK := Lib.hid (fun w => rIsKey_c s w)
  unfold wordB
  generalize nmB s.data.toList = a at *
  generalize keyB s = b at *
  clear h
  cases a
  · go_enter Tryz.func72, Tryz.ntmps72
    go_wp2_with fail
    refine (HN.out _).mono ?_
    rintro e w' ⟨rfl, z, rfl⟩
    go_wp2_with fail
    go_ret
    exact Ret.mk rfl ((Ex.refl _).ext _)
  · go_enter Tryz.func72, Tryz.ntmps72
    go_wp2_with fail
    refine (HN.out _).mono ?_
    rintro e w' ⟨rfl, z, rfl⟩
    go_wp2_with fail
    refine (HK.out _).mono ?_
    rintro e w' ⟨rfl, z2, rfl⟩
    go_wp2_with fail
    go_ret
    exact Ret.mk (by simp) (((Ex.refl _).ext _).ext _)
theorem byte_at {s : ByteArray} {j : Nat} (h : j < s.size) : s.data.toList[j]? = some s[j] := get_idx h
set_option maxRecDepth 40000 in
set_option maxHeartbeats 3200000 in
theorem rTwo_out (s : ByteArray) (c : UInt8) (w : World) (h : s.size ≤ maxLen) (hi : Lib.indexByte s.data.toList c = -1) : Calls Tryz.prog 71 #[.string s, .int .u8 (c.toNat : Int)] w (Ret w (.bool false)) := by
  have HN := Lib.hid (Lib.indexByte_none hi)
  unfold maxLen at h
  clear hi
  go_enter Tryz.func71, Tryz.ntmps71
  go_wp2_with fail
  go_loop [5] (fun i => ∃ j : Nat, i = .int .i64 j ∧ j ≤ s.size) (fun i => s.size - (intOf i).toNat)
  case atStart => exact ⟨0, rfl, by omega⟩
  case round =>
    obtain ⟨j, rfl, hj⟩ := hrel
    by_cases hlt : j < s.size
    · have m1 : (j : Int) < (s.size : Int) := by omega
      have m0 : (0 : Int) ≤ (j : Int) := by omega
      have hb : ((s[j].toNat : Int) == (c.toNat : Int)) = false := by
        rw [beq_eq_false_iff_ne]
        intro e
        refine HN.out j ?_
        rw [byte_at hlt]
        congr 1
        exact UInt8.toNat_inj.1 (by omega)
      go_wp2_with fail
      go_round
      case rel => exact ⟨j + 1, by go_num, by omega⟩
      case measure => simp [intOf]; omega
    · have m1 : decide ((j : Int) < (s.size : Int)) = false := decide_eq_false (by omega)
      go_wp2_with fail
      go_ret
      exact Ret.mk rfl (Ex.refl _)
set_option maxRecDepth 40000 in
set_option maxHeartbeats 3200000 in
theorem rTwo_in (s : ByteArray) (c : UInt8) (n : Nat) (w : World) (h : s.size ≤ maxLen) (hn : n < s.size) (hi : Lib.indexByte s.data.toList c = n) : Calls Tryz.prog 71 #[.string s, .int .u8 (c.toNat : Int)] w (Ret w (.bool (wordB (cutA s n) && wordB (cutB s n)))) := by
  have HS := Lib.hid (Lib.indexByte_some hi)
  obtain ⟨l1, l2⟩ := cut_len s n
  have H1 := Lib.hid (fun w => rWord_c (cutA s n) w (by omega))
  have H2 := Lib.hid (fun w => rWord_c (cutB s n) w (by omega))
  have HA : Hid (cutA s n = s.extract 0 n) := rfl
  have HB : Hid (cutB s n = s.extract (n + 1) s.size) := rfl
  unfold maxLen at h
  generalize cutA s n = a at *
  generalize cutB s n = b at *
  generalize wordB a = p at *
  generalize wordB b = q at *
  clear hi l1 l2
  go_enter Tryz.func71, Tryz.ntmps71
  go_wp2_with fail
  go_loop [5] (fun i => ∃ j : Nat, i = .int .i64 j ∧ j ≤ n) (fun i => s.size - (intOf i).toNat)
  case atStart => exact ⟨0, rfl, by omega⟩
  case round =>
    obtain ⟨j, rfl, hj⟩ := hrel
    have hlt : j < s.size := by omega
    have m1 : (j : Int) < (s.size : Int) := by omega
    have m0 : (0 : Int) ≤ (j : Int) := by omega
    by_cases hjn : j < n
    · have hb : ((s[j].toNat : Int) == (c.toNat : Int)) = false := by
        rw [beq_eq_false_iff_ne]
        intro e
        refine HS.out.2 j hjn ?_
        rw [byte_at hlt]
        congr 1
        exact UInt8.toNat_inj.1 (by omega)
      go_wp2_with fail
      go_round
      case rel => exact ⟨j + 1, by go_num, by omega⟩
      case measure => simp [intOf]; omega
    · obtain rfl : j = n := by omega
      have hb : ((s[j].toNat : Int) == (c.toNat : Int)) = true := by
        have h9 := HS.out.1
        rw [byte_at hlt] at h9
        injection h9 with h9
        rw [h9]
        simp
      have m3 : (j : Int) ≤ (s.size : Int) := by omega
      have m4 : (j : Int) + 1 ≤ (s.size : Int) := by omega
      have m5 : (0 : Int) ≤ (j : Int) + 1 := by omega
      have m6 : ((j : Int) + 1).toNat = j + 1 := by omega
      cases p with
      | false =>
        go_wp2_with fail
        rw [← HA.out]
        refine (H1.out _).mono ?_
        rintro e w' ⟨rfl, z, rfl⟩
        go_wp2_with fail
        go_ret
        exact Ret.mk rfl ((Ex.refl _).ext _)
      | true =>
        go_wp2_with fail
        rw [← HA.out]
        refine (H1.out _).mono ?_
        rintro e w' ⟨rfl, z, rfl⟩
        go_wp2_with fail
        rw [← HB.out]
        refine (H2.out _).mono ?_
        rintro e w' ⟨rfl, z2, rfl⟩
        go_wp2_with fail
        go_ret
        exact Ret.mk (by simp) (((Ex.refl _).ext _).ext _)
theorem rTwo_c (s : ByteArray) (c : UInt8) (w : World) (h : s.size ≤ maxLen) : Calls Tryz.prog 71 #[.string s, .int .u8 (c.toNat : Int)] w (Ret w (.bool (twoB s c))) := by
  unfold twoB
  rcases index_cases s c with hi | ⟨n, hn, hi⟩
  · rw [if_pos hi]; exact rTwo_out s c w h hi
  · rw [if_neg (by omega), hi, Int.toNat_natCast]; exact rTwo_in s c n w h hn hi
set_option maxHeartbeats 1600000 in
theorem rLevel_c (k : Int) (w : World) (hk : 1 ≤ k ∧ k ≤ 21) : Calls Tryz.prog 46 #[.int .i64 k] w (fun e w' => e = .returned (.int .i64 (levelI k : Nat)) ∧ w' = w) := by
  have hc : k = 1 ∨ k = 2 ∨ k = 3 ∨ k = 4 ∨ k = 5 ∨ k = 6 ∨ k = 7 ∨ k = 8 ∨ k = 9 ∨ k = 10 ∨ k = 11 ∨ k = 12 ∨ k = 13 ∨ k = 14 ∨ k = 15 ∨ k = 16 ∨ k = 17 ∨ k = 18 ∨ k = 19 ∨ k = 20 ∨ k = 21 := by omega
  clear hk
  rcases hc with rfl | rfl | rfl | rfl | rfl | rfl | rfl | rfl | rfl | rfl | rfl | rfl | rfl | rfl | rfl | rfl | rfl | rfl | rfl | rfl | rfl
  all_goals
    go_enter Tryz.func46, Tryz.ntmps46
    go_wp2_with fail
    go_ret
    exact ⟨ret_eq (by simp [levelI]), rfl⟩
def signS (k : Int) : ByteArray := if k = 17 then ⟨#[111, 114]⟩ else if k = 16 then ⟨#[97, 110, 100]⟩ else if k = 15 then ⟨#[110, 111, 116]⟩ else if k = 18 then ⟨#[69, 70]⟩ else if k = 19 then ⟨#[65, 70]⟩ else if k = 20 then ⟨#[69, 71]⟩ else if k = 21 then ⟨#[65, 71]⟩ else if k = 9 then ⟨#[61]⟩ else if k = 10 then ⟨#[33, 61]⟩ else if k = 11 then ⟨#[60]⟩ else if k = 12 then ⟨#[60, 61]⟩ else if k = 6 then ⟨#[43]⟩ else if k = 8 then ⟨#[42]⟩ else ⟨#[45]⟩
set_option maxHeartbeats 1600000 in
theorem rSignK_c (k : Int) (w : World) (hk : 1 ≤ k ∧ k ≤ 21) : Calls Tryz.prog 47 #[.int .i64 k] w (fun e w' => e = .returned (.string (signS k)) ∧ w' = w) := by
  have hc : k = 1 ∨ k = 2 ∨ k = 3 ∨ k = 4 ∨ k = 5 ∨ k = 6 ∨ k = 7 ∨ k = 8 ∨ k = 9 ∨ k = 10 ∨ k = 11 ∨ k = 12 ∨ k = 13 ∨ k = 14 ∨ k = 15 ∨ k = 16 ∨ k = 17 ∨ k = 18 ∨ k = 19 ∨ k = 20 ∨ k = 21 := by omega
  clear hk
  rcases hc with rfl | rfl | rfl | rfl | rfl | rfl | rfl | rfl | rfl | rfl | rfl | rfl | rfl | rfl | rfl | rfl | rfl | rfl | rfl | rfl | rfl
  all_goals
    go_enter Tryz.func47, Tryz.ntmps47
    go_wp2_with fail
    go_ret
    exact ⟨ret_eq (by simp [signS]), rfl⟩
theorem conv_cell (W : World) (g : Nat) (n : Nat) (hn : n < 256) (hc : W.cell? ⟨g, 0, none⟩ = some (.int .u8 (n : Int))) :
    Sem.run Tryz.prog (convert 79 9 (.slice (some ⟨g, 0, none⟩) 1 1)) W = .ok (.string ⟨#[UInt8.ofNat n]⟩) W := by
  have h := run_convert_bytes_back (P := Tryz.prog) W 79 9 5 ⟨g, 0, none⟩ 1 [UInt8.ofNat n] Tryz.underlying79 Tryz.underlying5 Tryz.underlying9 (fun j hj => by
    have : j = 0 := by simp at hj; omega
    subst this
    show W.cell? ⟨g, 0, none⟩ = _
    rw [hc]
    simp only [List.getElem_cons_zero, UInt8.toNat_ofNat']
    rw [Nat.mod_eq_of_lt (by omega)])
  exact h
theorem conv_new (W : World) (g n : Nat) (hn : n < 10) (hg : g = W.heap.size) :
    Sem.run Tryz.prog (convert 79 9 (.slice (some ⟨g, 0, none⟩) 1 1)) (W.alloc (.cells #[.int .u8 (48 + (n : Int))] 5)) = .ok (.string ⟨#[UInt8.ofNat (48 + n)]⟩) (W.alloc (.cells #[.int .u8 (48 + (n : Int))] 5)) := by
  have h := Blk.new W 5 [.int .u8 (48 + (n : Int))]
  subst hg
  exact conv_cell _ _ (48 + n) (by omega) (by rw [h.cell 0]; simp)
theorem conv_ext (W : World) (g n : Nat) (z : Up (W.alloc (.cells #[.int .u8 (48 + (n : Int))] 5))) (hn : n < 10) (hg : g = W.heap.size) :
    Sem.run Tryz.prog (convert 79 9 (.slice (some ⟨g, 0, none⟩) 1 1)) (ext (W.alloc (.cells #[.int .u8 (48 + (n : Int))] 5)) z) = .ok (.string ⟨#[UInt8.ofNat (48 + n)]⟩) (ext (W.alloc (.cells #[.int .u8 (48 + (n : Int))] 5)) z) := by
  have h := (Blk.new W 5 [.int .u8 (48 + (n : Int))]).ex ⟨z, rfl⟩
  subst hg
  exact conv_cell _ _ (48 + n) (by omega) (by rw [h.cell 0]; simp)
theorem conv_drew (W : World) (g n : Nat) (hn : n < 10) (hg : g = W.heap.size) :
    Sem.run Tryz.prog (convert 79 9 (.slice (some ⟨g, 0, none⟩) 1 1)) (W.alloc (.cells #[.int .u8 (48 + (n : Int))] 5)).drew = .ok (.string ⟨#[UInt8.ofNat (48 + n)]⟩) (W.alloc (.cells #[.int .u8 (48 + (n : Int))] 5)).drew := by
  have h := (Blk.new W 5 [.int .u8 (48 + (n : Int))]).drew
  subst hg
  exact conv_cell _ _ (48 + n) (by omega) (by rw [h.cell 0]; simp)
theorem conv_ext_drew (W : World) (g n : Nat) (z : Up (W.alloc (.cells #[.int .u8 (48 + (n : Int))] 5)).drew) (hn : n < 10) (hg : g = W.heap.size) :
    Sem.run Tryz.prog (convert 79 9 (.slice (some ⟨g, 0, none⟩) 1 1)) (ext (W.alloc (.cells #[.int .u8 (48 + (n : Int))] 5)).drew z) = .ok (.string ⟨#[UInt8.ofNat (48 + n)]⟩) (ext (W.alloc (.cells #[.int .u8 (48 + (n : Int))] 5)).drew z) := by
  have h := ((Blk.new W 5 [.int .u8 (48 + (n : Int))]).drew).ex ⟨z, rfl⟩
  subst hg
  exact conv_cell _ _ (48 + n) (by omega) (by rw [h.cell 0]; simp)
theorem str_app (D E : List UInt8) : (⟨D.toArray⟩ : ByteArray) ++ (⟨E.toArray⟩ : ByteArray) = ⟨(D ++ E).toArray⟩ := by
  apply ByteArray.ext
  simp
attribute [local go_sem] conv_new conv_ext conv_drew conv_ext_drew
set_option maxRecDepth 100000 in
theorem rDigK_c (n : Nat) (w : World) (h : n < 10) : Calls Tryz.prog 44 #[.int .i64 n] w (Ret w (.string ⟨#[UInt8.ofNat (48 + n)]⟩)) := by
  have d1 : decide (9 < (n : Int)) = false := by simp; omega
  have HR : ∃ r, r = UInt8.ofNat (48 + n) := ⟨_, rfl⟩
  go_enter Tryz.func44, Tryz.ntmps44
  go_wp2_with fail
  go_ret
  exact Ret.mk (by simp) ((Ex.refl _).alloc _)
set_option maxRecDepth 100000 in
set_option maxHeartbeats 1000000 in
theorem rDigsK_c : ∀ (n : Nat) (w : World), n ≤ 1125899906842624 → Calls Tryz.prog 44 #[.int .i64 n] w (Ret w (.string ⟨(Lib.decDigits n).toArray⟩)) := by
  intro n
  induction n using Nat.strongRecOn with
  | _ n ih =>
    intro w hn
    by_cases h : n < 10
    · rw [Lib.decDigits, dif_pos h]
      exact rDigK_c n w h
    · have e := Lib.decDigits.eq_1 n
      rw [dif_neg h] at e
      have IH := Lib.hid (fun w' => ih (n / 10) (by omega) w' (by omega))
      rw [e]
      have HDg := Lib.hid (fun w' => rDigK_c (n % 10) w' (by omega))
      have d1 : decide (9 < (n : Int)) = true := by simp; omega
      have hd : n % 10 < 10 := by omega
      have hq : n / 10 ≤ 1125899906842624 := by omega
      have e1 : (n : Int) / 10 = ((n / 10 : Nat) : Int) := by omega
      have e2 : (n : Int) % 10 = ((n % 10 : Nat) : Int) := by omega
      have f1 : (n : Int).tdiv 10 = ((n / 10 : Nat) : Int) := by rw [Int.tdiv_eq_ediv_of_nonneg (by omega)]; omega
      have f2 : (n : Int).tmod 10 = ((n % 10 : Nat) : Int) := by rw [Int.tmod_eq_emod_of_nonneg (by omega)]; omega
      have f3 : IntKind.i64.wrap ((n / 10 : Nat) : Int) = ((n / 10 : Nat) : Int) := IntWalk.i64_in _ (by omega)
      have f6 : IntKind.i64.wrap ((n % 10 : Nat) : Int) = ((n % 10 : Nat) : Int) := IntWalk.i64_in _ (by omega)
      have f4 : IntKind.i64.wrap (48 + ((n % 10 : Nat) : Int)) = 48 + ((n % 10 : Nat) : Int) := IntWalk.i64_in _ (by omega)
      have f5 : IntKind.u8.wrap (48 + ((n % 10 : Nat) : Int)) = 48 + ((n % 10 : Nat) : Int) := by
        rw [IntKind.wrap_u8]; omega
      have hD : (Lib.decDigits (n / 10)).length ≤ 30 := by
        have h0 := Lib.itoa_length_le ((n / 10 : Nat) : Int) (by omega) (by omega)
        rw [Lib.itoa_nonneg] at h0
        omega
      clear ih e
      generalize Lib.decDigits (n / 10) = D at *
      generalize n / 10 = q at *
      generalize n % 10 = r at *
      go_enter Tryz.func44, Tryz.ntmps44
      go_wp2_with fail
      refine (IH.out _).mono ?_
      rintro e w' ⟨rfl, z, rfl⟩
      go_wp2_with fail
      refine (HDg.out _).mono ?_
      rintro e w' ⟨rfl, z2, rfl⟩
      go_wp2_with fail
      go_ret
      exact Ret.mk (by
        show Value.string ((⟨D.toArray⟩ : ByteArray) ++ (⟨#[48 + UInt8.ofNat r]⟩ : ByteArray)) = _
        congr 1
        apply ByteArray.ext
        simp) (((Ex.refl _).ext _).ext _)
set_option maxRecDepth 20000 in
set_option maxHeartbeats 1600000 in
theorem wr_p (k n p q : Int) (s : ByteArray) (A : Option Addr) (m c : Nat) (w : World) (hp : p ≠ 0) :
    Calls Tryz.prog 40 #[.agg #[.int .i64 k, .int .i64 n, .int .i64 p, .int .i64 q, .string s, .slice A m c]] w (Ret w (.bool (false))) := by
  have g1 : (p != 0) = true := by rw [bne_iff_ne]; exact hp
  have g1' : (p == 0) = false := beq_eq_false_iff_ne.2 hp
  go_enter Tryz.func40, Tryz.ntmps40
  go_wp2_with fail
  go_ret
  exact Ret.mk rfl ((Ex.refl _).alloc _)
set_option maxRecDepth 20000 in
set_option maxHeartbeats 1600000 in
theorem wr_q (k n p q : Int) (s : ByteArray) (A : Option Addr) (m c : Nat) (w : World) (hp : p = 0) (hq : q ≠ 0) :
    Calls Tryz.prog 40 #[.agg #[.int .i64 k, .int .i64 n, .int .i64 p, .int .i64 q, .string s, .slice A m c]] w (Ret w (.bool (false))) := by
  have g1 : (q != 0) = true := by rw [bne_iff_ne]; exact hq
  have g1' : (q == 0) = false := beq_eq_false_iff_ne.2 hq
  subst hp
  go_enter Tryz.func40, Tryz.ntmps40
  go_wp2_with fail
  go_ret
  exact Ret.mk rfl ((Ex.refl _).alloc _)
set_option maxRecDepth 20000 in
set_option maxHeartbeats 1600000 in
theorem wr_var (n p q : Int) (s : ByteArray) (A : Option Addr) (m c : Nat) (w : World) (hp : p = 0) (hq : q = 0) (hs : s.size ≤ maxLen) :
    Calls Tryz.prog 40 #[.agg #[.int .i64 2, .int .i64 n, .int .i64 p, .int .i64 q, .string s, .slice A m c]] w (Ret w (.bool (twoB s 46))) := by
  subst hp hq
  have HT := Lib.hid (fun w => rTwo_c s 46 w hs)
  clear hs
  go_enter Tryz.func40, Tryz.ntmps40
  go_wp2_with fail
  refine (HT.out _).mono ?_
  rintro e w' ⟨rfl, z, rfl⟩
  go_wp2_with fail
  go_ret
  exact Ret.mk rfl (((Ex.refl _).alloc _).ext _)
set_option maxRecDepth 20000 in
set_option maxHeartbeats 1600000 in
theorem wr_count (n p q : Int) (s : ByteArray) (A : Option Addr) (m c : Nat) (w : World) (hp : p = 0) (hq : q = 0) (hs : s.size ≤ maxLen) :
    Calls Tryz.prog 40 #[.agg #[.int .i64 3, .int .i64 n, .int .i64 p, .int .i64 q, .string s, .slice A m c]] w (Ret w (.bool (wordB s))) := by
  subst hp hq
  have HT := Lib.hid (fun w => rWord_c s w hs)
  clear hs
  go_enter Tryz.func40, Tryz.ntmps40
  go_wp2_with fail
  refine (HT.out _).mono ?_
  rintro e w' ⟨rfl, z, rfl⟩
  go_wp2_with fail
  go_ret
  exact Ret.mk rfl (((Ex.refl _).alloc _).ext _)
set_option maxRecDepth 20000 in
set_option maxHeartbeats 1600000 in
theorem wr_chan (n p q : Int) (s : ByteArray) (A : Option Addr) (m c : Nat) (w : World) (hp : p = 0) (hq : q = 0) (hs : s.size ≤ maxLen) :
    Calls Tryz.prog 40 #[.agg #[.int .i64 4, .int .i64 n, .int .i64 p, .int .i64 q, .string s, .slice A m c]] w (Ret w (.bool (twoB s 44))) := by
  subst hp hq
  have HT := Lib.hid (fun w => rTwo_c s 44 w hs)
  clear hs
  go_enter Tryz.func40, Tryz.ntmps40
  go_wp2_with fail
  refine (HT.out _).mono ?_
  rintro e w' ⟨rfl, z, rfl⟩
  go_wp2_with fail
  go_ret
  exact Ret.mk rfl (((Ex.refl _).alloc _).ext _)
set_option maxRecDepth 20000 in
set_option maxHeartbeats 1600000 in
theorem written_rest (k n p q : Int) (s : ByteArray) (A : Option Addr) (l : List Tr) (c : Nat) (w : World) (b2 : (k == 2) = false) (b3 : (k == 3) = false) (b4 : (k == 4) = false) (hp : p = 0) (hq : q = 0) (Q : Nat → Prop) (N : Nat) (hl : l.length ≤ 1000000) (ht : TrC Q w (.node k n p q s l) (c6 k n p q s A l.length c)) (hN : ∀ (j : Nat) (x : Tr), l[j]? = some x → x.size ≤ N ∧ NmOk x) (g : Tr → Bool) (HC : Hid (∀ w' x k n p q s A m c, x.size ≤ N ∧ NmOk x → TrC Q w' x (c6 k n p q s A m c) → Calls Tryz.prog 40 #[.agg #[.int .i64 k, .int .i64 n, .int .i64 p, .int .i64 q, .string s, .slice A m c]] w' (Ret w' (.bool (g x))))) (RES : Bool) (HT : Hid ((∀ (i : Nat) (x : Tr), l[i]? = some x → g x = true) → RES = true)) (HF : Hid (∀ (i : Nat) (x : Tr), l[i]? = some x → g x = false → RES = false)) :
    Calls Tryz.prog 40 #[.agg #[.int .i64 k, .int .i64 n, .int .i64 p, .int .i64 q, .string s, .slice A l.length c]] w (Ret w (.bool RES)) := by
  subst hp hq
  obtain ⟨_, _, _, _, _, _, hk⟩ := ht.kids
  have HK := Lib.hid (fun w' (hx : Ex w w') j x (hj : l[j]? = some x) => (hk j x hj).ex hx)
  have HG : Hid (∀ j, j < l.length → ∃ x, l[j]? = some x) := fun j hj => ⟨_, List.getElem?_eq_getElem hj⟩
  have HI := Lib.hid hN
  clear hk ht hN
  have HZ : Hid (Blk ((w.alloc (.cells #[.int .i64 k, .int .i64 n, .int .i64 0, .int .i64 0, .string s, .slice A l.length c] 24)))  w.heap.size 24 (c6 k n 0 0 s A l.length c)) := Blk.new w _ _
  have HX0 : Hid (Ex w ((w.alloc (.cells #[.int .i64 k, .int .i64 n, .int .i64 0, .int .i64 0, .string s, .slice A l.length c] 24))) ) := (Ex.refl w).alloc _
  obtain ⟨W0, hW0⟩ : ∃ W0, W0 = (w.alloc (.cells #[.int .i64 k, .int .i64 n, .int .i64 0, .int .i64 0, .string s, .slice A l.length c] 24)) := ⟨_, rfl⟩
  rw [← hW0] at HZ HX0
  have HW0 := Lib.hid hW0
  clear hW0
  go_enter Tryz.func40, Tryz.ntmps40
  go_wp2_with fail
  rw [← HW0.out]
  go_loopw [3] (fun i wr => ∃ j : Nat, i = .int .i64 j ∧ j ≤ l.length ∧ Hid ((∀ (i : Nat) (x : Tr), i < j → l[i]? = some x → g x = true) ∧ Ex W0 wr)) (fun i _ => l.length - (intOf i).toNat)
  case atStart => exact ⟨0, rfl, Nat.zero_le _, Lib.hid ⟨fun i x h => absurd h (by omega), Ex.refl _⟩⟩
  case round =>
    obtain ⟨j, rfl, hj, HH⟩ := hrel
    have hz := HZ.out.ex HH.out.2
    have lz := hz.lt
    have r5 : wr.cell? ⟨w.heap.size, 5, none⟩ = some (.slice A l.length c) := hz.cell 5
    clear hz
    by_cases hlt : j < l.length
    · have m1 : (j : Int) < (l.length : Int) := by omega
      have m0 : (0 : Int) ≤ (j : Int) := by omega
      obtain ⟨x, hx⟩ := HG.out j hlt
      obtain ⟨b, o, k2, n2, p2, q2, s2, B, m2, c2, rfl, hb, h0, h1, h2, h3, h4, h5, htx⟩ := HK.out _ (HX0.out.trans HH.out.2) j x hx
      have HCx := Lib.hid (fun w' (hy : Ex wr w') => HC.out w' x k2 n2 p2 q2 s2 B m2 c2 (HI.out j x hx) (htx.ex hy))
      obtain ⟨qq, hqq⟩ : ∃ qq, g x = qq := ⟨_, rfl⟩
      rw [hqq] at HCx
      have HXY := Lib.hid (And.intro hx hqq)
      clear htx hx hqq
      cases qq with
      | true =>
        go_wp2_with fail
        refine (HCx.out _ (Ex.refl _)).mono ?_
        rintro e w' ⟨rfl, z3, rfl⟩
        go_wp2_with fail
        refine ⟨⟨j + 1, by go_num, by omega, Lib.hid ⟨fun i y hi hy => ?_, HH.out.2.ext _⟩⟩, by simp [intOf]; omega⟩
        by_cases hij : i = j
        · subst hij
          have h9 := HXY.out.1
          rw [h9] at hy
          injection hy with hy
          rw [← hy]; exact HXY.out.2
        · exact HH.out.1 i y (by omega) hy
      | false =>
        go_wp2_with fail
        refine (HCx.out _ (Ex.refl _)).mono ?_
        rintro e w' ⟨rfl, z3, rfl⟩
        go_wp2_with fail
        go_ret
        exact Ret.mk (by rw [HF.out j x HXY.out.1 HXY.out.2]; rfl) (HX0.out.trans (HH.out.2.ext _))
    · have hjl : j = l.length := by omega
      subst hjl
      have m1 : decide (((l.length : Nat) : Int) < (l.length : Int)) = false := decide_eq_false (by omega)
      have HR := Lib.hid (HT.out (fun i x hi => HH.out.1 i x (by
        rcases Nat.lt_or_ge i l.length with h | h
        · exact h
        · rw [List.getElem?_eq_none h] at hi; cases hi) hi))
      have HE := Lib.hid HH.out.2
      clear hlt HH
      go_wp2_with fail
      go_ret
      exact Ret.mk (by rw [HR.out]; rfl) (HX0.out.trans HE.out)
def wrtB : Tr → Bool
  | .node k _ p q s l => if p = 0 then if q = 0 then if k = 2 then twoB s 46 else if k = 3 then wordB s else if k = 4 then twoB s 44 else (l.map wrtB).all id else false else false
theorem wrt_other {k n : Int} {s : ByteArray} {l : List Tr} (h2 : k ≠ 2) (h3 : k ≠ 3) (h4 : k ≠ 4) : wrtB (.node k n 0 0 s l) = !(l.any (fun x => !wrtB x)) := by
  conv => lhs; unfold wrtB
  rw [if_pos rfl, if_pos rfl, if_neg h2, if_neg h3, if_neg h4, List.all_map, List.not_any_eq_all_not]
  simp [Function.comp_def]
theorem wrt_named {k n p q : Int} {s : ByteArray} {l : List Tr} (h : k = 2 ∨ k = 3 ∨ k = 4 ∨ p ≠ 0 ∨ q ≠ 0) : wrtB (.node k n p q s l) = nodeB k p q s := by
  conv => lhs; unfold wrtB
  unfold nodeB
  by_cases hp : p = 0
  · by_cases hq : q = 0
    · rw [if_pos hp, if_pos hq, if_pos hp, if_pos hq]
      rcases h with h | h | h | h | h
      · rw [if_pos h, if_pos h]
      · rw [if_neg (by omega), if_pos h, if_neg (by omega), if_pos h]
      · rw [if_neg (by omega), if_neg (by omega), if_pos h, if_neg (by omega), if_neg (by omega), if_pos h]
      · exact absurd hp h
      · exact absurd hq h
    · rw [if_pos hp, if_neg hq, if_pos hp, if_neg hq]
  · rw [if_neg hp, if_neg hp]
set_option maxHeartbeats 1600000 in
theorem written_c : ∀ (N : Nat) (t : Tr) (Q : Nat → Prop) (w : World) (k n p q : Int) (s : ByteArray) (A : Option Addr) (m c : Nat), t.size ≤ N → N ≤ 1000000 → NmOk t → TrC Q w t (c6 k n p q s A m c) →
    Calls Tryz.prog 40 #[.agg #[.int .i64 k, .int .i64 n, .int .i64 p, .int .i64 q, .string s, .slice A m c]] w (Ret w (.bool (wrtB t))) := by
  intro N
  induction N with
  | zero => intro t Q w k n p q s A m c h; exact absurd h (by have := t.size_pos; omega)
  | succ N ih =>
    intro t Q w k n p q s A m c hs hN hm ht
    obtain ⟨k1, n1, p1, q1, s1, l⟩ := t
    have ht' := ht
    obtain ⟨rfl, rfl, rfl, rfl, rfl, rfl, -⟩ := ht.kids
    have hlen := Tr.len_le (l := l)
    rw [Tr.size_node] at hs
    by_cases hp : p = 0
    · by_cases hq : q = 0
      · by_cases h2 : k = 2
        · rw [wrt_named (.inl h2)]
          subst h2
          rw [show nodeB 2 p q s = twoB s 46 by unfold nodeB; rw [if_pos hp, if_pos hq, if_pos rfl]]
          exact wr_var n p q s A _ c w hp hq hm.size
        by_cases h3 : k = 3
        · rw [wrt_named (.inr (.inl h3))]
          subst h3
          rw [show nodeB 3 p q s = wordB s by unfold nodeB; rw [if_pos hp, if_pos hq, if_neg (by omega), if_pos rfl]]
          exact wr_count n p q s A _ c w hp hq hm.size
        by_cases h4 : k = 4
        · rw [wrt_named (.inr (.inr (.inl h4)))]
          subst h4
          rw [show nodeB 4 p q s = twoB s 44 by unfold nodeB; rw [if_pos hp, if_pos hq, if_neg (by omega), if_neg (by omega), if_pos rfl]]
          exact wr_chan n p q s A _ c w hp hq hm.size
        refine written_rest k n p q s A l c w (beq_eq_false_iff_ne.2 h2) (beq_eq_false_iff_ne.2 h3) (beq_eq_false_iff_ne.2 h4) hp hq Q N (by omega) ht' (fun j x hj => ⟨?_, hm.kid x (List.mem_of_getElem? hj)⟩) wrtB (Lib.hid fun w' x k n p q s A m c h1 h => ih x Q w' k n p q s A m c h1.1 (by omega) h1.2 h) _ (Lib.hid fun h => ?_) (Lib.hid fun i x hi h => ?_)
        · have := mem_le_sum (l.map Tr.size) x.size (List.mem_map.2 ⟨x, List.mem_of_getElem? hj, rfl⟩)
          omega
        · subst hp hq
          rw [wrt_other h2 h3 h4, Bool.not_eq_true', List.any_eq_false]
          intro x hx
          obtain ⟨i, hi⟩ := List.mem_iff_getElem?.1 hx
          rw [h i x hi]; simp
        · subst hp hq
          rw [wrt_other h2 h3 h4, Bool.not_eq_false']
          exact List.any_eq_true.2 ⟨x, List.mem_of_getElem? hi, by rw [h]; rfl⟩
      · rw [wrt_named (.inr (.inr (.inr (.inr hq)))), show nodeB k p q s = false by unfold nodeB; rw [if_pos hp, if_neg hq]]
        exact wr_q k n p q s A _ c w hp hq
    · rw [wrt_named (.inr (.inr (.inr (.inl hp)))), show nodeB k p q s = false by unfold nodeB; rw [if_neg hp]]
      exact wr_p k n p q s A _ c w hp
set_option maxHeartbeats 1600000 in
theorem rWritten_c (t : Tr) (Q : Nat → Prop) (w : World) (k n p q : Int) (s : ByteArray) (A : Option Addr) (m c : Nat) (hs : t.size ≤ 1000000) (hm : NmOk t) (ht : TrC Q w t (c6 k n p q s A m c)) :
    Calls Tryz.prog 20 #[.agg #[.int .i64 k, .int .i64 n, .int .i64 p, .int .i64 q, .string s, .slice A m c]] w (Ret w (.bool (smallB t && formedB plainB t && wrtB t))) := by
  have H1 := Lib.hid (fun w' (hx : Ex w w') => rFormed_c t Q w' k n p q s A m c hs (ht.ex hx))
  have H2 := Lib.hid (fun w' (hx : Ex w w') => written_c t.size t Q w' k n p q s A m c (Nat.le_refl _) hs hm (ht.ex hx))
  generalize (smallB t && formedB plainB t) = a at *
  generalize wrtB t = b at *
  clear ht hs hm
  cases a
  · go_enter Tryz.func20, Tryz.ntmps20
    go_wp2_with fail
    refine (H1.out _ ((Ex.refl _).alloc _)).mono ?_
    rintro e w' ⟨rfl, z, rfl⟩
    go_wp2_with fail
    go_ret
    exact Ret.mk rfl (((Ex.refl _).alloc _).ext _)
  · go_enter Tryz.func20, Tryz.ntmps20
    go_wp2_with fail
    refine (H1.out _ ((Ex.refl _).alloc _)).mono ?_
    rintro e w' ⟨rfl, z, rfl⟩
    go_wp2_with fail
    refine (H2.out _ (((Ex.refl _).alloc _).ext _)).mono ?_
    rintro e w' ⟨rfl, z2, rfl⟩
    go_wp2_with fail
    go_ret
    exact Ret.mk (by simp) ((((Ex.refl _).alloc _).ext _).ext _)
/-- well-formed and written: what the program asks of each node -/
theorem formed_wrt (t : Tr) : formedB nodeB t = (formedB plainB t && wrtB t) := by
  induction t using Tr.induct with
  | h k n p q s l hI =>
    rw [formed_node, formed_node]
    by_cases hk : k = 2 ∨ k = 3 ∨ k = 4 ∨ p ≠ 0 ∨ q ≠ 0
    · rw [wrt_named hk]
      cases hh : headB k n l.length with
      | false => simp
      | true =>
        by_cases hk2 : k = 2 ∨ k = 3 ∨ k = 4
        · have hp : partsI k = 0 := by rcases hk2 with h | h | h <;> rw [h] <;> rfl
          have hpl : plainB k p q s = true := by unfold plainB namesB; rcases hk2 with h | h | h <;> rw [h] <;> simp
          rw [hpl]
          have : l = [] := by
            unfold headB at hh
            simp only [Bool.and_eq_true, decide_eq_true_eq] at hh
            have := hh.1.1.1
            exact List.eq_nil_of_length_eq_zero (by omega)
          subst this
          simp
        · have h1 : nodeB k p q s = false := by
            unfold nodeB
            by_cases hp : p = 0
            · rw [if_pos hp, if_neg (by omega)]
            · rw [if_neg hp]
          rw [h1]
          simp
    · have h2 : k ≠ 2 := by omega
      have h3 : k ≠ 3 := by omega
      have h4 : k ≠ 4 := by omega
      obtain rfl : p = 0 := by omega
      obtain rfl : q = 0 := by omega
      rw [wrt_other h2 h3 h4]
      have hpl : plainB k 0 0 s = nodeB k 0 0 s := by
        unfold plainB namesB nodeB
        rw [decide_eq_false h2, decide_eq_false h3, decide_eq_false h4, if_neg h2, if_neg h3, if_neg h4]
        simp
      rw [hpl]
      have e : l.any (fun x => !formedB nodeB x) = (l.any (fun x => !formedB plainB x) || l.any (fun x => !wrtB x)) := by
        rw [Bool.eq_iff_iff]
        simp only [List.any_eq_true, Bool.or_eq_true, Bool.not_eq_true']
        constructor
        · rintro ⟨x, hx, h⟩
          rw [hI x hx] at h
          simp only [Bool.and_eq_false_iff] at h
          rcases h with h | h
          · exact .inl ⟨x, hx, h⟩
          · exact .inr ⟨x, hx, h⟩
        · rintro (⟨x, hx, h⟩ | ⟨x, hx, h⟩)
          · exact ⟨x, hx, by rw [hI x hx, h]; simp⟩
          · exact ⟨x, hx, by rw [hI x hx, h]; simp⟩
      rw [e]
      simp [Bool.and_assoc]
theorem valid_wrt (t : Tr) : validB t = (smallB t && formedB plainB t && wrtB t) := by
  unfold validB
  rw [formed_wrt, Bool.and_assoc]
set_option maxRecDepth 40000 in
set_option maxHeartbeats 3200000 in
theorem rAt_c (k n p q : Int) (s : ByteArray) (A : Option Addr) (m c lv : Nat) (T : List UInt8) (w : World) (hk : 1 ≤ k ∧ k ≤ 21) (hT : T.length ≤ 1000000)
    (HT0 : ∀ w', Ex w w' → Calls Tryz.prog 22 #[.agg #[.int .i64 k, .int .i64 n, .int .i64 p, .int .i64 q, .string s, .slice A m c]] w' (Ret w' (.string ⟨T.toArray⟩))) :
    Calls Tryz.prog 45 #[.agg #[.int .i64 k, .int .i64 n, .int .i64 p, .int .i64 q, .string s, .slice A m c], .int .i64 (lv : Nat)] w (Ret w (.string ⟨(parL (levelI k) lv T).toArray⟩)) := by
  have HL := Lib.hid (fun w => rLevel_c k w hk)
  have HT := Lib.hid HT0
  obtain ⟨FB, hFB⟩ : ∃ J : ByteArray, J = ⟨T.toArray⟩ := ⟨_, rfl⟩
  have hFs : FB.size = T.length := by rw [hFB, size_data]
  rw [← hFB] at HT
  obtain ⟨J1, hJ1⟩ : ∃ X : ByteArray, X = (⟨#[40]⟩ : ByteArray) ++ FB := ⟨_, rfl⟩
  obtain ⟨J2, hJ2⟩ : ∃ X : ByteArray, X = J1 ++ (⟨#[41]⟩ : ByteArray) := ⟨_, rfl⟩
  have a1 := add_ok hJ1 (by show 1 + FB.size ≤ _; omega)
  have a2 := add_ok hJ2 (by rw [hJ1, ByteArray.size_append]; show 1 + FB.size + 1 ≤ _; omega)
  have hR2 : (⟨(40 :: (T ++ [41])).toArray⟩ : ByteArray) = J2 := by
    rw [hJ2, hJ1, hFB, str_cat, str_cat]; rfl
  unfold parL
  generalize levelI k = own at *
  by_cases ho : own < lv
  · have b1 : decide ((own : Int) < (lv : Int)) = true := decide_eq_true (by omega)
    have b2 : decide (own < lv) = true := decide_eq_true (by omega)
    rw [if_pos ho, hR2]
    clear hk hT HT0 hFB hFs hJ1 hJ2 hR2 ho
    go_enter Tryz.func45, Tryz.ntmps45
    go_wp2_with fail
    refine (HL.out _).mono ?_
    rintro e w' ⟨rfl, rfl⟩
    go_wp2_with fail
    refine (HT.out _ ((Ex.refl _).alloc _)).mono ?_
    rintro e w' ⟨rfl, z, rfl⟩
    go_wp2_with fail
    go_ret
    exact Ret.mk rfl (((Ex.refl _).alloc _).ext _)
  · have b1 : decide ((own : Int) < (lv : Int)) = false := decide_eq_false (by omega)
    have b2 : decide (own < lv) = false := decide_eq_false (by omega)
    rw [if_neg ho, ← hFB]
    clear hk hT HT0 hFB hFs hJ1 hJ2 hR2 ho
    go_enter Tryz.func45, Tryz.ntmps45
    go_wp2_with fail
    refine (HL.out _).mono ?_
    rintro e w' ⟨rfl, rfl⟩
    go_wp2_with fail
    refine (HT.out _ ((Ex.refl _).alloc _)).mono ?_
    rintro e w' ⟨rfl, z, rfl⟩
    go_wp2_with fail
    go_ret
    exact Ret.mk rfl (((Ex.refl _).alloc _).ext _)
theorem quiet_ret {P : Program} {f : FuncId} {args : Array Value} {W : World} {z : Up W} {v : Value} (h : Calls P f args (ext W z) (fun e w' => e = .returned v ∧ w' = ext W z)) :
    Calls P f args (ext W z) fun e w'' => e = .returned v ∧ ∃ y : Up W, w'' = ext W y :=
  h.mono fun _ _ ⟨he, hy⟩ => ⟨he, z, hy⟩
theorem itoa_dec (v : Nat) : Lib.itoa (v : Int) = Lib.decDigits v := Lib.itoa_nonneg v
set_option maxRecDepth 40000 in
set_option maxHeartbeats 3200000 in
theorem rText_leaf (k n p q : Int) (s : ByteArray) (A : Option Addr) (m c : Nat) (w : World) (hk : k = 1 ∨ k = 2 ∨ k = 3 ∨ k = 4 ∨ k = 13 ∨ k = 14) (h0 : 0 ≤ n) (h1 : n ≤ 1125899906842624) (hs : s.size ≤ 33) :
    Calls Tryz.prog 22 #[.agg #[.int .i64 k, .int .i64 n, .int .i64 p, .int .i64 q, .string s, .slice A m c]] w (Ret w (.string ⟨(bodyL k n s []).toArray⟩)) := by
  obtain ⟨v, rfl⟩ : ∃ v : Nat, n = (v : Int) := ⟨n.toNat, by omega⟩
  have HI := Lib.hid (fun w' => rDigsK_c v w' (by omega))
  rcases hk with rfl | rfl | rfl | rfl | rfl | rfl
  · rw [show bodyL 1 v s [] = Lib.itoa v by unfold bodyL; rw [if_pos rfl], itoa_dec]
    generalize (⟨(Lib.decDigits v).toArray⟩ : ByteArray) = R at *
    clear h0 h1 hs
    go_enter Tryz.func22, Tryz.ntmps22
    go_wp2_with fail
    refine (HI.out _).mono ?_
    rintro e w' ⟨rfl, z2, rfl⟩
    go_wp2_with fail
    go_ret
    exact Ret.mk rfl (((Ex.refl _).alloc _).ext _)
  · rw [show bodyL 2 v s [] = s.data.toList by unfold bodyL; rw [if_neg (by omega), if_pos rfl], ← lift_data]
    clear h0 h1 hs HI
    go_enter Tryz.func22, Tryz.ntmps22
    go_wp2_with fail
    go_ret
    exact Ret.mk rfl ((Ex.refl _).alloc _)
  · rw [show bodyL 3 v s [] = [99, 111, 117, 110, 116, 40] ++ s.data.toList ++ [41] by unfold bodyL; rw [if_neg (by omega), if_neg (by omega), if_pos rfl]]
    obtain ⟨J1, hJ1⟩ : ∃ J : ByteArray, J = (⟨#[99, 111, 117, 110, 116, 40]⟩ : ByteArray) ++ s := ⟨_, rfl⟩
    obtain ⟨J2, hJ2⟩ : ∃ J : ByteArray, J = J1 ++ (⟨#[41]⟩ : ByteArray) := ⟨_, rfl⟩
    have a1 := add_ok hJ1 (by show 6 + s.size ≤ _; omega)
    have a2 := add_ok hJ2 (by rw [hJ1, ByteArray.size_append]; show 6 + s.size + 1 ≤ _; omega)
    have hJ : (⟨([99, 111, 117, 110, 116, 40] ++ s.data.toList ++ [41]).toArray⟩ : ByteArray) = J2 := by
      rw [hJ2, hJ1, ← str_cat, ← str_cat, ← lift_data s]
    rw [hJ]
    clear h0 h1 hs HI hJ hJ1 hJ2
    go_enter Tryz.func22, Tryz.ntmps22
    go_wp2_with fail
    go_ret
    exact Ret.mk rfl ((Ex.refl _).alloc _)
  · rw [show bodyL 4 v s [] = [99, 104, 97, 110, 110, 101, 108, 40] ++ s.data.toList ++ [41] by unfold bodyL; rw [if_neg (by omega), if_neg (by omega), if_neg (by omega), if_pos rfl]]
    obtain ⟨J1, hJ1⟩ : ∃ J : ByteArray, J = (⟨#[99, 104, 97, 110, 110, 101, 108, 40]⟩ : ByteArray) ++ s := ⟨_, rfl⟩
    obtain ⟨J2, hJ2⟩ : ∃ J : ByteArray, J = J1 ++ (⟨#[41]⟩ : ByteArray) := ⟨_, rfl⟩
    have a1 := add_ok hJ1 (by show 8 + s.size ≤ _; omega)
    have a2 := add_ok hJ2 (by rw [hJ1, ByteArray.size_append]; show 8 + s.size + 1 ≤ _; omega)
    have hJ : (⟨([99, 104, 97, 110, 110, 101, 108, 40] ++ s.data.toList ++ [41]).toArray⟩ : ByteArray) = J2 := by
      rw [hJ2, hJ1, ← str_cat, ← str_cat, ← lift_data s]
    rw [hJ]
    clear h0 h1 hs HI hJ hJ1 hJ2
    go_enter Tryz.func22, Tryz.ntmps22
    go_wp2_with fail
    go_ret
    exact Ret.mk rfl ((Ex.refl _).alloc _)
  · rw [show bodyL 13 v s [] = [116, 114, 117, 101] by unfold bodyL; rw [if_neg (by omega), if_neg (by omega), if_neg (by omega), if_neg (by omega), if_pos rfl]]
    clear h0 h1 hs HI
    go_enter Tryz.func22, Tryz.ntmps22
    go_wp2_with fail
    go_ret
    exact Ret.mk rfl ((Ex.refl _).alloc _)
  · rw [show bodyL 14 v s [] = [102, 97, 108, 115, 101] by unfold bodyL; rw [if_neg (by omega), if_neg (by omega), if_neg (by omega), if_neg (by omega), if_neg (by omega), if_pos rfl]]
    clear h0 h1 hs HI
    go_enter Tryz.func22, Tryz.ntmps22
    go_wp2_with fail
    go_ret
    exact Ret.mk rfl ((Ex.refl _).alloc _)
theorem before_5 : beforeS 5 = ⟨#[45]⟩ := by decide
theorem before_sign (k : Int) (hk : k = 15 ∨ k = 18 ∨ k = 19 ∨ k = 20 ∨ k = 21) : beforeS k = signS k ++ ⟨#[32]⟩ := by
  rcases hk with rfl | rfl | rfl | rfl | rfl <;> decide
theorem between_sign (k : Int) (hk : k = 6 ∨ k = 7 ∨ k = 8 ∨ k = 9 ∨ k = 10 ∨ k = 11 ∨ k = 12 ∨ k = 16 ∨ k = 17) : betweenS k = (⟨#[32]⟩ ++ signS k) ++ ⟨#[32]⟩ := by
  rcases hk with rfl | rfl | rfl | rfl | rfl | rfl | rfl | rfl | rfl <;> decide
theorem ite_le {c : Prop} [Decidable c] {a b : ByteArray} {n : Nat} (ha : a.size ≤ n) (hb : b.size ≤ n) : (if c then a else b).size ≤ n := by split <;> assumption
theorem sign_len (k : Int) : (signS k).size ≤ 3 := by
  unfold signS
  repeat (refine ite_le (by decide) ?_)
  decide
set_option maxRecDepth 40000 in
set_option maxHeartbeats 3200000 in
theorem rText_neg (n p q ka na pa qa : Int) (s sa : ByteArray) (b o c : Nat) (Aa : Option Addr) (ma ca : Nat) (F : List UInt8) (w : World) (hb : b < w.heap.size)
    (ha0 : w.cell? ⟨b, o, none⟩ = some (.int .i64 ka)) (ha1 : w.cell? ⟨b, o + 1, none⟩ = some (.int .i64 na)) (ha2 : w.cell? ⟨b, o + 2, none⟩ = some (.int .i64 pa)) (ha3 : w.cell? ⟨b, o + 3, none⟩ = some (.int .i64 qa)) (ha4 : w.cell? ⟨b, o + 4, none⟩ = some (.string sa)) (ha5 : w.cell? ⟨b, o + 5, none⟩ = some (.slice Aa ma ca)) (hF : F.length ≤ 1000000)
    (HA0 : ∀ w', Ex w w' → Calls Tryz.prog 45 #[.agg #[.int .i64 ka, .int .i64 na, .int .i64 pa, .int .i64 qa, .string sa, .slice Aa ma ca], .int .i64 6] w' (Ret w' (.string ⟨F.toArray⟩))) :
    Calls Tryz.prog 22 #[.agg #[.int .i64 5, .int .i64 n, .int .i64 p, .int .i64 q, .string s, .slice (some ⟨b, o, none⟩) 1 c]] w (Ret w (.string ⟨((beforeS 5).data.toList ++ F).toArray⟩)) := by
  have HA := Lib.hid HA0
  obtain ⟨FB, hFB⟩ : ∃ J : ByteArray, J = ⟨F.toArray⟩ := ⟨_, rfl⟩
  have hFs : FB.size = F.length := by rw [hFB, size_data]
  rw [← hFB] at HA
  obtain ⟨J, hJ⟩ : ∃ X : ByteArray, X = (⟨#[45]⟩ : ByteArray) ++ FB := ⟨_, rfl⟩
  have a1 := add_ok hJ (by show 1 + FB.size ≤ _; omega)
  have hR : (⟨((beforeS 5).data.toList ++ F).toArray⟩ : ByteArray) = J := by rw [before_5, hJ, hFB, ← str_cat]
  rw [hR]
  clear hF HA0 hFB hFs hJ hR
  go_enter Tryz.func22, Tryz.ntmps22
  go_wp2_with fail
  refine (HA.out _ ((Ex.refl _).alloc _)).mono ?_
  rintro e w' ⟨rfl, z, rfl⟩
  go_wp2_with fail
  go_ret
  exact Ret.mk rfl (((Ex.refl _).alloc _).ext _)
set_option maxRecDepth 40000 in
set_option maxHeartbeats 3200000 in
theorem rText_pre (k n p q ka na pa qa : Int) (s sa : ByteArray) (b o c : Nat) (Aa : Option Addr) (ma ca : Nat) (F : List UInt8) (w : World) (hk : k = 15 ∨ k = 18 ∨ k = 19 ∨ k = 20 ∨ k = 21) (hb : b < w.heap.size)
    (ha0 : w.cell? ⟨b, o, none⟩ = some (.int .i64 ka)) (ha1 : w.cell? ⟨b, o + 1, none⟩ = some (.int .i64 na)) (ha2 : w.cell? ⟨b, o + 2, none⟩ = some (.int .i64 pa)) (ha3 : w.cell? ⟨b, o + 3, none⟩ = some (.int .i64 qa)) (ha4 : w.cell? ⟨b, o + 4, none⟩ = some (.string sa)) (ha5 : w.cell? ⟨b, o + 5, none⟩ = some (.slice Aa ma ca)) (hF : F.length ≤ 1000000)
    (HA0 : ∀ w', Ex w w' → Calls Tryz.prog 45 #[.agg #[.int .i64 ka, .int .i64 na, .int .i64 pa, .int .i64 qa, .string sa, .slice Aa ma ca], .int .i64 2] w' (Ret w' (.string ⟨F.toArray⟩))) :
    Calls Tryz.prog 22 #[.agg #[.int .i64 k, .int .i64 n, .int .i64 p, .int .i64 q, .string s, .slice (some ⟨b, o, none⟩) 1 c]] w (Ret w (.string ⟨((beforeS k).data.toList ++ F).toArray⟩)) := by
  have HL := Lib.hid (fun w => rLevel_c k w (by omega))
  rw [show levelI k = 2 by rcases hk with rfl | rfl | rfl | rfl | rfl <;> decide] at HL
  have HS := Lib.hid (fun w => rSignK_c k w (by omega))
  have HA := Lib.hid HA0
  have hsl := sign_len k
  have e1 : (k == 1) = false := beq_eq_false_iff_ne.2 (by omega)
  have e2 : (k == 2) = false := beq_eq_false_iff_ne.2 (by omega)
  have e3 : (k == 3) = false := beq_eq_false_iff_ne.2 (by omega)
  have e4 : (k == 4) = false := beq_eq_false_iff_ne.2 (by omega)
  have e13 : (k == 13) = false := beq_eq_false_iff_ne.2 (by omega)
  have e14 : (k == 14) = false := beq_eq_false_iff_ne.2 (by omega)
  have e5 : (k == 5) = false := beq_eq_false_iff_ne.2 (by omega)
  obtain ⟨FB, hFB⟩ : ∃ J : ByteArray, J = ⟨F.toArray⟩ := ⟨_, rfl⟩
  have hFs : FB.size = F.length := by rw [hFB, size_data]
  rw [← hFB] at HA
  obtain ⟨J1, hJ1⟩ : ∃ X : ByteArray, X = signS k ++ (⟨#[32]⟩ : ByteArray) := ⟨_, rfl⟩
  obtain ⟨J, hJ⟩ : ∃ X : ByteArray, X = J1 ++ FB := ⟨_, rfl⟩
  have a1 := add_ok hJ1 (by show (signS k).size + 1 ≤ _; omega)
  have a2 := add_ok hJ (by rw [hJ1, ByteArray.size_append]; show (signS k).size + 1 + FB.size ≤ _; omega)
  have hR : (⟨((beforeS k).data.toList ++ F).toArray⟩ : ByteArray) = J := by rw [before_sign k hk, ← hJ1, hJ, hFB, ← str_cat, ← lift_data]
  rw [hR]
  generalize signS k = SS at *
  clear hF HA0 hFB hFs hJ hJ1 hR hk hsl
  go_enter Tryz.func22, Tryz.ntmps22
  go_wp2_with fail
  refine (HL.out _).mono ?_
  rintro e w' ⟨rfl, rfl⟩
  go_wp2_with fail
  refine wp_region_ext (by kernel_rfl) (by kernel_rfl) ?_
  repeat (go_big_quiet_step (first | (go_at_call 47; exact quiet_ret (HS.out _)) | (go_at_call 45; exact quiet_ext (HA.out _ (((Ex.refl w).alloc _).ext _)))))
  refine wpQuiet_end (fun z => ?_)
  go_wp2_with fail
  go_ret
  exact Ret.mk rfl (((Ex.refl _).alloc _).ext _)
set_option maxRecDepth 40000 in
set_option maxHeartbeats 3200000 in
theorem rText_cmp (k n p q ka na pa qa kb nb pb qb : Int) (s sa sb : ByteArray) (b o c : Nat) (Aa Ab : Option Addr) (ma ca mb cb own : Nat) (F G : List UInt8) (w : World) (hk : k = 6 ∨ k = 7 ∨ k = 8 ∨ k = 9 ∨ k = 10 ∨ k = 11 ∨ k = 12 ∨ k = 16 ∨ k = 17) (hown : levelI k = own) (h3 : own = 3) (hb : b < w.heap.size)
    (ha0 : w.cell? ⟨b, o, none⟩ = some (.int .i64 ka)) (ha1 : w.cell? ⟨b, o + 1, none⟩ = some (.int .i64 na)) (ha2 : w.cell? ⟨b, o + 2, none⟩ = some (.int .i64 pa)) (ha3 : w.cell? ⟨b, o + 3, none⟩ = some (.int .i64 qa)) (ha4 : w.cell? ⟨b, o + 4, none⟩ = some (.string sa)) (ha5 : w.cell? ⟨b, o + 5, none⟩ = some (.slice Aa ma ca)) (hb0 : w.cell? ⟨b, o + 6, none⟩ = some (.int .i64 kb)) (hb1 : w.cell? ⟨b, o + 7, none⟩ = some (.int .i64 nb)) (hb2 : w.cell? ⟨b, o + 8, none⟩ = some (.int .i64 pb)) (hb3 : w.cell? ⟨b, o + 9, none⟩ = some (.int .i64 qb)) (hb4 : w.cell? ⟨b, o + 10, none⟩ = some (.string sb)) (hb5 : w.cell? ⟨b, o + 11, none⟩ = some (.slice Ab mb cb)) (hF : F.length ≤ 1000000) (hG : G.length ≤ 1000000)
    (HA0 : ∀ w', Ex w w' → Calls Tryz.prog 45 #[.agg #[.int .i64 ka, .int .i64 na, .int .i64 pa, .int .i64 qa, .string sa, .slice Aa ma ca], .int .i64 4] w' (Ret w' (.string ⟨F.toArray⟩)))
    (HB0 : ∀ w', Ex w w' → Calls Tryz.prog 45 #[.agg #[.int .i64 kb, .int .i64 nb, .int .i64 pb, .int .i64 qb, .string sb, .slice Ab mb cb], .int .i64 4] w' (Ret w' (.string ⟨G.toArray⟩))) :
    Calls Tryz.prog 22 #[.agg #[.int .i64 k, .int .i64 n, .int .i64 p, .int .i64 q, .string s, .slice (some ⟨b, o, none⟩) 2 c]] w (Ret w (.string ⟨(F ++ (betweenS k).data.toList ++ G).toArray⟩)) := by
  have hl2 : own ≠ 2 ∧ own ≤ 5 := by rw [← hown]; rcases hk with rfl | rfl | rfl | rfl | rfl | rfl | rfl | rfl | rfl <;> decide
  have HL := Lib.hid (fun w => rLevel_c k w (by omega))
  rw [hown] at HL
  subst h3
  have HS := Lib.hid (fun w => rSignK_c k w (by omega))
  have HA := Lib.hid HA0
  have HAb := Lib.hid HB0
  have hsl := sign_len k
  have e1 : (k == 1) = false := beq_eq_false_iff_ne.2 (by omega)
  have e2 : (k == 2) = false := beq_eq_false_iff_ne.2 (by omega)
  have e3 : (k == 3) = false := beq_eq_false_iff_ne.2 (by omega)
  have e4 : (k == 4) = false := beq_eq_false_iff_ne.2 (by omega)
  have e13 : (k == 13) = false := beq_eq_false_iff_ne.2 (by omega)
  have e14 : (k == 14) = false := beq_eq_false_iff_ne.2 (by omega)
  have e5 : (k == 5) = false := beq_eq_false_iff_ne.2 (by omega)
  have f2 : ((((3 : Nat) : Int) : Int) == 2) = false := beq_eq_false_iff_ne.2 (by omega)
  have f3 : ((((3 : Nat) : Int) : Int) == 3) = true := by rfl
  have f4 : ((3 : Nat) == 2) = false := beq_eq_false_iff_ne.2 (by omega)
  have f5 : ((3 : Nat) == 3) = true := by rfl
  have m1 : (((3 : Nat) : Int) : Int) ≤ 5 := by omega
  obtain ⟨FB, hFB⟩ : ∃ J : ByteArray, J = ⟨F.toArray⟩ := ⟨_, rfl⟩
  have hFs : FB.size = F.length := by rw [hFB, size_data]
  rw [← hFB] at HA
  obtain ⟨GB, hGB⟩ : ∃ J : ByteArray, J = ⟨G.toArray⟩ := ⟨_, rfl⟩
  have hGs : GB.size = G.length := by rw [hGB, size_data]
  rw [← hGB] at HAb
  obtain ⟨J1, hJ1⟩ : ∃ X : ByteArray, X = FB ++ (⟨#[32]⟩ : ByteArray) := ⟨_, rfl⟩
  obtain ⟨J2, hJ2⟩ : ∃ X : ByteArray, X = J1 ++ signS k := ⟨_, rfl⟩
  obtain ⟨J3, hJ3⟩ : ∃ X : ByteArray, X = J2 ++ (⟨#[32]⟩ : ByteArray) := ⟨_, rfl⟩
  obtain ⟨J, hJ⟩ : ∃ X : ByteArray, X = J3 ++ GB := ⟨_, rfl⟩
  have s1 : J1.size = FB.size + 1 := by rw [hJ1, ByteArray.size_append]; rfl
  have s2 : J2.size = J1.size + (signS k).size := by rw [hJ2, ByteArray.size_append]
  have s3 : J3.size = J2.size + 1 := by rw [hJ3, ByteArray.size_append]; rfl
  have a1 := add_ok hJ1 (by show FB.size + 1 ≤ _; omega)
  have a2 := add_ok hJ2 (by omega)
  have a3 := add_ok hJ3 (by show J2.size + 1 ≤ _; omega)
  have a4 := add_ok hJ (by omega)
  have hR : (⟨(F ++ (betweenS k).data.toList ++ G).toArray⟩ : ByteArray) = J := by
    rw [hJ, hJ3, hJ2, hJ1, hFB, hGB, between_sign k hk]
    apply ByteArray.ext
    simp
  rw [hR]
  generalize signS k = SS at *
  clear hF hG HA0 HB0 hFB hFs hGB hGs hJ hJ1 hJ2 hJ3 hR hk hsl s1 s2 s3 hown hl2 
  go_enter Tryz.func22, Tryz.ntmps22
  go_wp2_with fail
  refine (HL.out _).mono ?_
  rintro e w' ⟨rfl, rfl⟩
  go_wp2_with fail
  refine wp_region_ext (by kernel_rfl) (by kernel_rfl) ?_
  repeat (go_big_quiet_step (first | (go_at_call 47; exact quiet_ret (HS.out _)) | (go_at_call 45; with_reducible exact quiet_ext (HA.out _ (((Ex.refl w).alloc _).ext _))) | (go_at_call 45; with_reducible exact quiet_ext (HAb.out _ (((Ex.refl w).alloc _).ext _)))))
  refine wpQuiet_end (fun z => ?_)
  go_wp2_with fail
  go_ret
  exact Ret.mk rfl (((Ex.refl _).alloc _).ext _)
set_option maxRecDepth 40000 in
set_option maxHeartbeats 3200000 in
theorem rText_two (k n p q ka na pa qa kb nb pb qb : Int) (s sa sb : ByteArray) (b o c : Nat) (Aa Ab : Option Addr) (ma ca mb cb own : Nat) (F G : List UInt8) (w : World) (hk : k = 6 ∨ k = 7 ∨ k = 8 ∨ k = 9 ∨ k = 10 ∨ k = 11 ∨ k = 12 ∨ k = 16 ∨ k = 17) (hown : levelI k = own) (h3 : own ≠ 3) (hb : b < w.heap.size)
    (ha0 : w.cell? ⟨b, o, none⟩ = some (.int .i64 ka)) (ha1 : w.cell? ⟨b, o + 1, none⟩ = some (.int .i64 na)) (ha2 : w.cell? ⟨b, o + 2, none⟩ = some (.int .i64 pa)) (ha3 : w.cell? ⟨b, o + 3, none⟩ = some (.int .i64 qa)) (ha4 : w.cell? ⟨b, o + 4, none⟩ = some (.string sa)) (ha5 : w.cell? ⟨b, o + 5, none⟩ = some (.slice Aa ma ca)) (hb0 : w.cell? ⟨b, o + 6, none⟩ = some (.int .i64 kb)) (hb1 : w.cell? ⟨b, o + 7, none⟩ = some (.int .i64 nb)) (hb2 : w.cell? ⟨b, o + 8, none⟩ = some (.int .i64 pb)) (hb3 : w.cell? ⟨b, o + 9, none⟩ = some (.int .i64 qb)) (hb4 : w.cell? ⟨b, o + 10, none⟩ = some (.string sb)) (hb5 : w.cell? ⟨b, o + 11, none⟩ = some (.slice Ab mb cb)) (hF : F.length ≤ 1000000) (hG : G.length ≤ 1000000)
    (HA0 : ∀ w', Ex w w' → Calls Tryz.prog 45 #[.agg #[.int .i64 ka, .int .i64 na, .int .i64 pa, .int .i64 qa, .string sa, .slice Aa ma ca], .int .i64 (own : Nat)] w' (Ret w' (.string ⟨F.toArray⟩)))
    (HB0 : ∀ w', Ex w w' → Calls Tryz.prog 45 #[.agg #[.int .i64 kb, .int .i64 nb, .int .i64 pb, .int .i64 qb, .string sb, .slice Ab mb cb], .int .i64 ((own : Int) + 1)] w' (Ret w' (.string ⟨G.toArray⟩))) :
    Calls Tryz.prog 22 #[.agg #[.int .i64 k, .int .i64 n, .int .i64 p, .int .i64 q, .string s, .slice (some ⟨b, o, none⟩) 2 c]] w (Ret w (.string ⟨(F ++ (betweenS k).data.toList ++ G).toArray⟩)) := by
  have hl2 : own ≠ 2 ∧ own ≤ 5 := by rw [← hown]; rcases hk with rfl | rfl | rfl | rfl | rfl | rfl | rfl | rfl | rfl <;> decide
  have HL := Lib.hid (fun w => rLevel_c k w (by omega))
  rw [hown] at HL

  have HS := Lib.hid (fun w => rSignK_c k w (by omega))
  have HA := Lib.hid HA0
  have HAb := Lib.hid HB0
  have hsl := sign_len k
  have e1 : (k == 1) = false := beq_eq_false_iff_ne.2 (by omega)
  have e2 : (k == 2) = false := beq_eq_false_iff_ne.2 (by omega)
  have e3 : (k == 3) = false := beq_eq_false_iff_ne.2 (by omega)
  have e4 : (k == 4) = false := beq_eq_false_iff_ne.2 (by omega)
  have e13 : (k == 13) = false := beq_eq_false_iff_ne.2 (by omega)
  have e14 : (k == 14) = false := beq_eq_false_iff_ne.2 (by omega)
  have e5 : (k == 5) = false := beq_eq_false_iff_ne.2 (by omega)
  have f2 : (((own : Int) : Int) == 2) = false := beq_eq_false_iff_ne.2 (by omega)
  have f3 : (((own : Int) : Int) == 3) = false := by rw [beq_eq_false_iff_ne]; omega
  have f4 : (own == 2) = false := beq_eq_false_iff_ne.2 (by omega)
  have f5 : (own == 3) = false := by rw [beq_eq_false_iff_ne]; omega
  have m1 : ((own : Int) : Int) ≤ 5 := by omega
  obtain ⟨FB, hFB⟩ : ∃ J : ByteArray, J = ⟨F.toArray⟩ := ⟨_, rfl⟩
  have hFs : FB.size = F.length := by rw [hFB, size_data]
  rw [← hFB] at HA
  obtain ⟨GB, hGB⟩ : ∃ J : ByteArray, J = ⟨G.toArray⟩ := ⟨_, rfl⟩
  have hGs : GB.size = G.length := by rw [hGB, size_data]
  rw [← hGB] at HAb
  obtain ⟨J1, hJ1⟩ : ∃ X : ByteArray, X = FB ++ (⟨#[32]⟩ : ByteArray) := ⟨_, rfl⟩
  obtain ⟨J2, hJ2⟩ : ∃ X : ByteArray, X = J1 ++ signS k := ⟨_, rfl⟩
  obtain ⟨J3, hJ3⟩ : ∃ X : ByteArray, X = J2 ++ (⟨#[32]⟩ : ByteArray) := ⟨_, rfl⟩
  obtain ⟨J, hJ⟩ : ∃ X : ByteArray, X = J3 ++ GB := ⟨_, rfl⟩
  have s1 : J1.size = FB.size + 1 := by rw [hJ1, ByteArray.size_append]; rfl
  have s2 : J2.size = J1.size + (signS k).size := by rw [hJ2, ByteArray.size_append]
  have s3 : J3.size = J2.size + 1 := by rw [hJ3, ByteArray.size_append]; rfl
  have a1 := add_ok hJ1 (by show FB.size + 1 ≤ _; omega)
  have a2 := add_ok hJ2 (by omega)
  have a3 := add_ok hJ3 (by show J2.size + 1 ≤ _; omega)
  have a4 := add_ok hJ (by omega)
  have hR : (⟨(F ++ (betweenS k).data.toList ++ G).toArray⟩ : ByteArray) = J := by
    rw [hJ, hJ3, hJ2, hJ1, hFB, hGB, between_sign k hk]
    apply ByteArray.ext
    simp
  rw [hR]
  generalize signS k = SS at *
  clear hF hG HA0 HB0 hFB hFs hGB hGs hJ hJ1 hJ2 hJ3 hR hk hsl s1 s2 s3 hown hl2 h3
  go_enter Tryz.func22, Tryz.ntmps22
  go_wp2_with fail
  refine (HL.out _).mono ?_
  rintro e w' ⟨rfl, rfl⟩
  go_wp2_with fail
  refine wp_region_ext (by kernel_rfl) (by kernel_rfl) ?_
  repeat (go_big_quiet_step (first | (go_at_call 47; exact quiet_ret (HS.out _)) | (go_at_call 45; with_reducible exact quiet_ext (HA.out _ (((Ex.refl w).alloc _).ext _))) | (go_at_call 45; with_reducible exact quiet_ext (HAb.out _ (((Ex.refl w).alloc _).ext _)))))
  refine wpQuiet_end (fun z => ?_)
  go_wp2_with fail
  go_ret
  exact Ret.mk rfl (((Ex.refl _).alloc _).ext _)
theorem rText_c : ∀ (N : Nat) (t : Tr) (Q : Nat → Prop) (w : World) (k n p q : Int) (s : ByteArray) (A : Option Addr) (m c : Nat), t.size ≤ N → N ≤ 2000 → formedB nodeB t = true → TrC Q w t (c6 k n p q s A m c) →
    Calls Tryz.prog 22 #[.agg #[.int .i64 k, .int .i64 n, .int .i64 p, .int .i64 q, .string s, .slice A m c]] w (Ret w (.string ⟨(wrL t 0).toArray⟩)) := by
  intro N
  induction N with
  | zero => intro t Q w k n p q s A m c h; exact absurd h (by have := t.size_pos; omega)
  | succ N ih =>
    intro t Q w k n p q s A m c hs hN hf ht
    obtain ⟨k1, n1, p1, q1, s1, l⟩ := t
    obtain ⟨rfl, rfl, rfl, rfl, rfl, rfl, hk⟩ := ht.kids
    rw [Tr.size_node] at hs
    obtain ⟨g1, g2, g3, g4, g5, g6⟩ := formed_parts hf
    have at_of : ∀ (x : Tr), x.size ≤ N → formedB nodeB x = true → ∀ (w' : World) (k n p q : Int) (s : ByteArray) (A : Option Addr) (m c lv : Nat), TrC Q w' x (c6 k n p q s A m c) → Calls Tryz.prog 45 #[.agg #[.int .i64 k, .int .i64 n, .int .i64 p, .int .i64 q, .string s, .slice A m c], .int .i64 (lv : Nat)] w' (Ret w' (.string ⟨(wrL x lv).toArray⟩)) := fun x hxs hxf w' k n p q s A m c lv htx => by
      have hl0 := wr_len x hxf 0
      have h9 := fun w2 (hx2 : Ex w' w2) => ih x Q w2 k n p q s A m c hxs (by omega) hxf (htx.ex hx2)
      obtain ⟨k1, n1, p1, q1, s1, l1⟩ := x
      obtain ⟨rfl, rfl, rfl, rfl, rfl, rfl, -⟩ := htx.kids
      obtain ⟨e1, -⟩ := formed_parts hxf
      have hk21 : 1 ≤ k ∧ k ≤ 21 := by rcases parts_cases k l1.length e1 with ⟨_, h⟩ | ⟨_, h⟩ | ⟨_, h⟩ <;> omega
      have h8 := rAt_c k n p q s A l1.length c lv (wrL (.node k n p q s l1) 0) w' hk21 (by omega) h9
      rw [wrL_node k n p q s l1 0, show parL (levelI k) 0 (bodyL k n s (l1.map wrL)) = bodyL k n s (l1.map wrL) by unfold parL; rw [if_neg (by omega)]] at h8
      rw [wrL_node]
      exact h8
    rw [wrL_node, show parL (levelI k) 0 (bodyL k n s (l.map wrL)) = bodyL k n s (l.map wrL) by unfold parL; rw [if_neg (by omega)]]
    rcases parts_cases k l.length g1 with ⟨hm, hkk⟩ | ⟨hm, hkk⟩ | ⟨hm, hkk⟩
    · have hnil : l = [] := List.eq_nil_of_length_eq_zero hm
      subst hnil
      exact rText_leaf k n p q s A 0 c w hkk g3 g4 (name_len g5)
    · obtain ⟨a, rfl⟩ := one_list hm
      obtain ⟨b, o, ka, na, pa, qa, sa, Aa, ma, ca, rfl, hb, h0, h1, h2, h3, h4, h5, hta⟩ := hk 0 a rfl
      have hsz : a.size ≤ N := by simp at hs; omega
      have hfa := g6 a (List.mem_cons_self ..)
      have hwl := wr_len a hfa (levelI k)
      show Calls _ _ _ _ (Ret w (.string ⟨(bodyL k n s [wrL a]).toArray⟩))
      rw [body_one k n s _ hkk]
      by_cases h55 : k = 5
      · subst h55
        refine rText_neg n p q ka na pa qa s sa b o c Aa ma ca (wrL a (levelI 5)) w hb (by simpa using h0) (by simpa using h1) (by simpa using h2) (by simpa using h3) (by simpa using h4) (by simpa using h5) (by omega) (fun w' hx => ?_)
        exact at_of a hsz hfa w' ka na pa qa sa Aa ma ca 6 (hta.ex hx)
      · have hk2 : k = 15 ∨ k = 18 ∨ k = 19 ∨ k = 20 ∨ k = 21 := by omega
        have hlv : levelI k = 2 := by rcases hk2 with rfl | rfl | rfl | rfl | rfl <;> decide
        refine rText_pre k n p q ka na pa qa s sa b o c Aa ma ca (wrL a (levelI k)) w hk2 hb (by simpa using h0) (by simpa using h1) (by simpa using h2) (by simpa using h3) (by simpa using h4) (by simpa using h5) (by omega) (fun w' hx => ?_)
        rw [hlv]
        exact at_of a hsz hfa w' ka na pa qa sa Aa ma ca 2 (hta.ex hx)
    · obtain ⟨a, d, rfl⟩ := two_list hm
      obtain ⟨b, o, ka, na, pa, qa, sa, Aa, ma, ca, rfl, hb, h0, h1, h2, h3, h4, h5, hta⟩ := hk 0 a rfl
      obtain ⟨b', o', kb, nb, pb, qb, sb, Ab, mb, cb, hAb, hb', i0, i1, i2, i3, i4, i5, htb⟩ := hk 1 d rfl
      injection hAb with hAb
      injection hAb with hAb1 hAb2
      subst hAb1 hAb2
      have hsza : a.size ≤ N := by simp at hs; omega
      have hszb : d.size ≤ N := by simp at hs; omega
      have hfa := g6 a (List.mem_cons_self ..)
      have hfb := g6 d (List.mem_cons_of_mem _ (List.mem_cons_self ..))
      show Calls _ _ _ _ (Ret w (.string ⟨(bodyL k n s [wrL a, wrL d]).toArray⟩))
      rw [body_two k n s _ _ hkk]
      by_cases h3' : levelI k = 3
      · rw [if_pos h3']
        have hwa := wr_len a hfa 4
        have hwb := wr_len d hfb 4
        refine rText_cmp k n p q ka na pa qa kb nb pb qb s sa sb b o c Aa Ab ma ca mb cb (levelI k) (wrL a 4) (wrL d 4) w hkk rfl h3' hb (by simpa using h0) (by simpa using h1) (by simpa using h2) (by simpa using h3) (by simpa using h4) (by simpa using h5) (by simpa using i0) (by simpa using i1) (by simpa using i2) (by simpa using i3) (by simpa using i4) (by simpa using i5) (by omega) (by omega) (fun w' hx => ?_) (fun w' hx => ?_)
        · exact at_of a hsza hfa w' ka na pa qa sa Aa ma ca 4 (hta.ex hx)
        · exact at_of d hszb hfb w' kb nb pb qb sb Ab mb cb 4 (htb.ex hx)
      · rw [if_neg h3']
        have hwa := wr_len a hfa (levelI k)
        have hwb := wr_len d hfb (levelI k + 1)
        refine rText_two k n p q ka na pa qa kb nb pb qb s sa sb b o c Aa Ab ma ca mb cb (levelI k) (wrL a (levelI k)) (wrL d (levelI k + 1)) w hkk rfl h3' hb (by simpa using h0) (by simpa using h1) (by simpa using h2) (by simpa using h3) (by simpa using h4) (by simpa using h5) (by simpa using i0) (by simpa using i1) (by simpa using i2) (by simpa using i3) (by simpa using i4) (by simpa using i5) (by omega) (by omega) (fun w' hx => ?_) (fun w' hx => ?_)
        · exact at_of a hsza hfa w' ka na pa qa sa Aa ma ca (levelI k) (hta.ex hx)
        · have h9 := at_of d hszb hfb w' kb nb pb qb sb Ab mb cb (levelI k + 1) (htb.ex hx)
          rw [show (((levelI k + 1 : Nat)) : Int) = (levelI k : Int) + 1 from by omega] at h9
          exact h9
theorem ba_eq {a b : ByteArray} (h : a.data.toList = b.data.toList) : a = b := by
  obtain ⟨x⟩ := a
  obtain ⟨y⟩ := b
  congr 1
  exact Array.toList_inj.1 h
set_option maxRecDepth 40000 in
set_option maxHeartbeats 3200000 in
theorem rIs_c (x : Wd) (S : ByteArray) (w : World) : Calls Tryz.prog 83 #[wdV x, .string S] w (Ret w (.bool (decide (x.kind = 3) && decide (x.text = S.data.toList)))) := by
  unfold wdV
  obtain ⟨k, T, q1, q2⟩ := x
  dsimp only
  obtain ⟨TB, hTB⟩ : ∃ TB : ByteArray, TB = ⟨T.toArray⟩ := ⟨_, rfl⟩
  have hTd : TB.data.toList = T := by rw [hTB]
  rw [← hTB]
  by_cases hk : k = 3
  · rw [decide_eq_true hk]
    subst hk
    by_cases ht : T = S.data.toList
    · rw [decide_eq_true ht]
      have : TB = S := ba_eq (by rw [hTd]; exact ht)
      subst this
      clear ht hTd hTB
      go_enter Tryz.func83, Tryz.ntmps83
      go_wp2_with fail
      go_ret
      exact Ret.mk (by simp) ((Ex.refl _).alloc _)
    · rw [decide_eq_false ht]
      obtain ⟨b1, b2⟩ := str_facts (a := TB) (b := S) (fun e => ht (by rw [← hTd, e]))
      clear ht hTd hTB
      go_enter Tryz.func83, Tryz.ntmps83
      go_wp2_with fail
      go_ret
      exact Ret.mk (by simp) ((Ex.refl _).alloc _)
  · rw [decide_eq_false hk]
    have e1 : ((k : Int) == 3) = false := beq_eq_false_iff_ne.2 (by omega)
    have e2 : (k == 3) = false := beq_eq_false_iff_ne.2 hk
    clear hk hTd hTB
    go_enter Tryz.func83, Tryz.ntmps83
    go_wp2_with fail
    go_ret
    exact Ret.mk (by simp) ((Ex.refl _).alloc _)
set_option maxRecDepth 40000 in
set_option maxHeartbeats 3200000 in
theorem rName_c (x : Wd) (w : World) (hl : x.text.length ≤ 16384) : Calls Tryz.prog 114 #[wdV x] w (Ret w (.bool (decide (x.kind = 2) && wordB ⟨x.text.toArray⟩))) := by
  have HW := Lib.hid (fun w => rWord_c ⟨x.text.toArray⟩ w (by rw [size_data]; unfold maxLen; simp; omega))
  clear hl
  unfold wdV
  obtain ⟨k, T, q1, q2⟩ := x
  dsimp only at *
  generalize (⟨T.toArray⟩ : ByteArray) = TB at *
  generalize wordB TB = b at *
  by_cases hk : k = 2
  · rw [decide_eq_true hk]
    subst hk
    go_enter Tryz.func114, Tryz.ntmps114
    go_wp2_with fail
    refine (HW.out _).mono ?_
    rintro e w' ⟨rfl, z, rfl⟩
    go_wp2_with fail
    go_ret
    exact Ret.mk (by simp) (((Ex.refl _).alloc _).ext _)
  · rw [decide_eq_false hk]
    have e1 : ((k : Int) == 2) = false := beq_eq_false_iff_ne.2 (by omega)
    have e2 : (k == 2) = false := beq_eq_false_iff_ne.2 hk
    clear hk
    go_enter Tryz.func114, Tryz.ntmps114
    go_wp2_with fail
    go_ret
    exact Ret.mk (by simp) ((Ex.refl _).alloc _)
theorem val_take (l : List UInt8) (j : Nat) (c : UInt8) (h : l[j]? = some c) : valF 0 (l.take (j + 1)) = valF 0 (l.take j) * 10 + (c.toNat - 48) := by
  rw [List.take_add_one, h, Option.toList_some, valF_append]
  rfl
theorem val_le (l : List UInt8) (j : Nat) : valF 0 (l.take j) ≤ valF 0 l := by
  have h : valF 0 l = valF (valF 0 (l.take j)) (l.drop j) := by rw [← valF_append, List.take_append_drop]
  rw [h]
  exact valF_ge _ _
set_option maxRecDepth 40000 in
set_option maxHeartbeats 3200000 in
theorem rNumK_c (s : ByteArray) (w : World) (hs : s.size ≤ 16384) (hd : s.data.toList.all digB = true) (hv : valF 0 s.data.toList ≤ 1125899906842624) : Calls Tryz.prog 113 #[.string s] w (Ret w (.int .i64 (valF 0 s.data.toList : Nat))) := by
  have HV := Lib.hid (fun j => val_le s.data.toList j)
  have HT := Lib.hid (fun j c h => val_take s.data.toList j c h)
  have HD : Hid (∀ (j : Nat) (c : UInt8), s.data.toList[j]? = some c → 48 ≤ c.toNat ∧ c.toNat ≤ 57) := fun j c h => by
    have h1 := List.all_eq_true.1 hd c (List.mem_of_getElem? h)
    unfold digB at h1
    simpa using h1
  have HE : Hid (s.data.toList.take s.size = s.data.toList) := by rw [size_data]; exact Lib.hid (List.take_of_length_le (Nat.le_refl _))
  have HVV := Lib.hid hv
  clear hd hv
  go_enter Tryz.func113, Tryz.ntmps113
  go_wp2_with fail
  go_loop [3, 4] (fun n i => ∃ j v : Nat, i = .int .i64 j ∧ n = .int .i64 v ∧ j ≤ s.size ∧ Hid (v = valF 0 (s.data.toList.take j))) (fun _ i => s.size - (intOf i).toNat)
  case atStart => exact ⟨0, 0, rfl, rfl, by omega, Lib.hid rfl⟩
  case round =>
    obtain ⟨j, v, rfl, rfl, hj, HW⟩ := hrel
    by_cases hlt : j < s.size
    · have m1 : (j : Int) < (s.size : Int) := by omega
      have m0 : (0 : Int) ≤ (j : Int) := by omega
      have hb := get_idx hlt
      have hdg := HD.out j _ hb
      have ht := HT.out j _ hb
      have hle := HV.out (j + 1)
      have hvv := HVV.out
      rw [ht, ← HW.out] at hle
      have HN := Lib.hid ht
      have v1 : (10 : Int) * (v : Int) + ((s[j].toNat : Int) - 48) ≤ 1125899906842624 := by omega
      have v2 : (0 : Int) ≤ (s[j].toNat : Int) - 48 := by omega
      have v3 : (s[j].toNat : Int) - 48 ≤ 9 := by omega
      have v4 : (v : Int) ≤ 112589990684262 := by omega
      have v5 : (0 : Int) ≤ (v : Int) := by omega
      have v6 : IntKind.u8.wrap ((s[j].toNat : Int) - 48) = (s[j].toNat : Int) - 48 := by rw [IntKind.wrap_u8]; omega
      have v7 : IntKind.i64.wrap ((s[j].toNat : Int) - 48) = (s[j].toNat : Int) - 48 := IntWalk.i64_in _ (by omega)
      clear hb hdg ht hle hvv
      go_wp2_with fail
      go_round
      case rel =>
        refine ⟨j + 1, v * 10 + (s[j].toNat - 48), by go_num, ?_, by omega, Lib.hid (by rw [HN.out, HW.out])⟩
        congr 1
        omega
      case measure => simp [intOf]; omega
    · obtain rfl : j = s.size := by omega
      have m1 : decide ((s.size : Int) < (s.size : Int)) = false := decide_eq_false (by omega)
      go_wp2_with fail
      go_ret
      exact Ret.mk (by rw [← HE.out, ← HW.out]; rfl) (Ex.refl _)
set_option maxRecDepth 40000 in
set_option maxHeartbeats 3200000 in
theorem rNode_c (k : Int) (A : Option Addr) (m c : Nat) (w : World) : Calls Tryz.prog 82 #[.int .i64 k, .slice A m c] w (Ret w (.agg #[.int .i64 k, .int .i64 0, .int .i64 0, .int .i64 0, .string ⟨#[]⟩, .slice A m c])) := by
  go_enter Tryz.func82, Tryz.ntmps82
  go_wp2_with fail
  exact bodyPost_ret (results_pred rfl rfl (Blk.new w _ [.int .i64 k, .int .i64 0, .int .i64 0, .int .i64 0, .string ⟨#[]⟩, .slice A m c])) rfl ⟨rfl, (Ex.refl _).alloc _⟩
def pfK (j : Nat) : Int := ([15, 18, 19, 20, 21] : List Int).getD j 0
def biK (j : Nat) : Int := ([17, 16, 6, 7, 8] : List Int).getD j 0
theorem pfK_ok (j : Nat) (h : j < 5) : 1 ≤ pfK j ∧ pfK j ≤ 21 := by
  have : j = 0 ∨ j = 1 ∨ j = 2 ∨ j = 3 ∨ j = 4 := by omega
  rcases this with rfl | rfl | rfl | rfl | rfl <;> decide
theorem biK_ok (j : Nat) (h : j < 5) : 1 ≤ biK j ∧ biK j ≤ 21 := by
  have : j = 0 ∨ j = 1 ∨ j = 2 ∨ j = 3 ∨ j = 4 := by omega
  rcases this with rfl | rfl | rfl | rfl | rfl <;> decide
theorem pfK_get (j : Nat) (h : j < 5) : (([15, 18, 19, 20, 21] : List Int).map (Value.int .i64))[j]? = some (.int .i64 (pfK j)) := by
  have : j = 0 ∨ j = 1 ∨ j = 2 ∨ j = 3 ∨ j = 4 := by omega
  rcases this with rfl | rfl | rfl | rfl | rfl <;> rfl
theorem biK_get (j : Nat) (h : j < 5) : (([17, 16, 6, 7, 8] : List Int).map (Value.int .i64))[j]? = some (.int .i64 (biK j)) := by
  have : j = 0 ∨ j = 1 ∨ j = 2 ∨ j = 3 ∨ j = 4 := by omega
  rcases this with rfl | rfl | rfl | rfl | rfl <;> rfl
/-- the first kind of a list that a test holds for -/
def firK (K : Nat → Int) (p : Int → Bool) : Int := (((List.range 5).map K).find? p).getD 0
theorem fir_at {K : Nat → Int} {p : Int → Bool} {j : Nat} (hj : j < 5) (hn : ∀ i, i < j → p (K i) = false) (h : p (K j) = true) : firK K p = K j := by
  unfold firK
  have : ((List.range 5).map K).find? p = some (K j) := by
    rw [List.find?_eq_some_iff_getElem]
    refine ⟨h, j, by simp; exact hj, by simp, fun i hi => ?_⟩
    simp [hn i hi]
  rw [this]; rfl
theorem fir_none {K : Nat → Int} {p : Int → Bool} (hn : ∀ i, i < 5 → p (K i) = false) : firK K p = 0 := by
  unfold firK
  have : ((List.range 5).map K).find? p = none := by
    rw [List.find?_eq_none]
    intro x hx
    obtain ⟨i, hi, rfl⟩ := List.mem_map.1 hx
    rw [hn i (List.mem_range.1 hi)]; simp
  rw [this]; rfl
def pfP (x : Wd) (k : Int) : Bool := decide (x.kind = 2) && decide (x.text = (signS k).data.toList)
def biP (x : Wd) (lv : Nat) (k : Int) : Bool := decide (levelI k = lv) && decide (x.text = (signS k).data.toList) && (decide (x.kind = 3) || decide (x.kind = 2))
set_option maxRecDepth 40000 in
set_option maxHeartbeats 3200000 in
theorem rPrefix_c (x : Wd) (w : World) : Calls Tryz.prog 81 #[wdV x] w (Ret w (.int .i64 (firK pfK (pfP x)))) := by
  have HF : Hid (∀ j, j < 5 → (∀ i, i < j → pfP x (pfK i) = false) → pfP x (pfK j) = true → (firK pfK (pfP x)) = pfK j) := fun j hj hn h => fir_at hj hn h
  have HN : Hid ((∀ i, i < 5 → pfP x (pfK i) = false) → (firK pfK (pfP x)) = 0) := fun h => fir_none h
  have HS := Lib.hid (fun j (hj : j < 5) w => rSignK_c (pfK j) w (pfK_ok j hj))
  have HL := Lib.hid (fun j (hj : j < 5) w => rLevel_c (pfK j) w (pfK_ok j hj))
  have HG := Lib.hid pfK_get
  generalize (firK pfK (pfP x)) = RES at *
  have HP : Hid (∀ k, pfP x k = (decide (x.kind = 2) && decide (x.text = (signS k).data.toList))) := fun k => rfl
  generalize pfP x = PP at *
  unfold wdV
  obtain ⟨k, T, q1, q2⟩ := x
  dsimp only
  obtain ⟨TB, hTB⟩ : ∃ TB : ByteArray, TB = ⟨T.toArray⟩ := ⟨_, rfl⟩
  have hTd : TB.data.toList = T := by rw [hTB]
  rw [← hTB]
  dsimp only at HP
  have HX : Hid (Blk ((w.alloc (.cells #[.int .i64 (k : Nat), .string TB, .int .i64 (q1 : Nat), .int .i64 (q2 : Nat)] 66)).alloc (.cells #[.int .i64 15, .int .i64 18, .int .i64 19, .int .i64 20, .int .i64 21] 3)) w.heap.size 66 [.int .i64 (k : Nat), .string TB, .int .i64 (q1 : Nat), .int .i64 (q2 : Nat)]) := (Blk.new w _ _).alloc _
  have HK : Hid (Blk ((w.alloc (.cells #[.int .i64 (k : Nat), .string TB, .int .i64 (q1 : Nat), .int .i64 (q2 : Nat)] 66)).alloc (.cells #[.int .i64 15, .int .i64 18, .int .i64 19, .int .i64 20, .int .i64 21] 3)) (w.heap.size + 1) 3 (([15, 18, 19, 20, 21] : List Int).map (Value.int .i64))) := Blk.new' _ (by simp) _ _
  have HTd := Lib.hid hTd
  clear hTB hTd
  go_enter Tryz.func81, Tryz.ntmps81
  go_wp2_with fail
  generalize hnb : w.heap.size + 1 = nb at *
  clear hnb
  go_loopw [4] (fun i wr => ∃ j : Nat, i = .int .i64 j ∧ j ≤ 5 ∧ Hid ((∀ i, i < j → PP (pfK i) = false) ∧ Ex ((w.alloc (.cells #[.int .i64 (k : Nat), .string TB, .int .i64 (q1 : Nat), .int .i64 (q2 : Nat)] 66)).alloc (.cells #[.int .i64 15, .int .i64 18, .int .i64 19, .int .i64 20, .int .i64 21] 3)) wr)) (fun i _ => 5 - (intOf i).toNat)
  case atStart => exact ⟨0, rfl, by omega, Lib.hid ⟨fun i h => absurd h (by omega), Ex.refl _⟩⟩
  case round =>
    obtain ⟨j, rfl, hj, HH⟩ := hrel
    by_cases hlt : j < 5
    · have m1 : (j : Int) < 5 := by omega
      have m0 : (0 : Int) ≤ (j : Int) := by omega
      have hx := HX.out.ex HH.out.2
      have x0 : wr.cell? ⟨w.heap.size, 0, none⟩ = some (.int .i64 (k : Nat)) := hx.cell 0
      have x1 : wr.cell? ⟨w.heap.size, 1, none⟩ = some (.string TB) := hx.cell 1
      have xl := hx.lt
      have hkk := HK.out.ex HH.out.2
      have k0 : wr.cell? ⟨nb, j, none⟩ = some (.int .i64 (pfK j)) := by rw [hkk.cell]; exact HG.out j hlt
      have kl := hkk.lt
      have HSj := Lib.hid (HS.out j hlt)
      have HLj := Lib.hid (HL.out j hlt)
      have HPj := Lib.hid (HP.out (pfK j))
      have HFj := Lib.hid (HF.out j hlt HH.out.1)
      have HNx : Hid (PP (pfK j) = false → ∀ i, i < j + 1 → PP (pfK i) = false) := fun h i hi => by
        by_cases hij : i = j
        · rw [hij]; exact h
        · exact HH.out.1 i (by omega)
      have HE := Lib.hid HH.out.2
      have HX2 := Lib.hid (((((Ex.refl w).alloc (.cells #[.int .i64 (k : Nat), .string TB, .int .i64 (q1 : Nat), .int .i64 (q2 : Nat)] 66)).alloc (.cells #[.int .i64 15, .int .i64 18, .int .i64 19, .int .i64 20, .int .i64 21] 3)).trans HH.out.2))
      generalize pfK j = KJ at *
      clear hx hkk HH
      by_cases hk : k = 2
      · have e1 : ((k : Int) == 2) = true := by rw [beq_iff_eq]; omega
        have e2 : (k == 2) = true := by rw [beq_iff_eq]; exact hk
        have HkV := Lib.hid (decide_eq_true hk)
        clear hk
        by_cases ht : TB = signS KJ
        · have HtV : Hid (decide (T = (signS KJ).data.toList) = true) := decide_eq_true (by rw [← HTd.out, ht])
          rw [← ht] at HSj
          clear ht
          go_wp2_with fail
          refine wp_region_ext (by kernel_rfl) (by kernel_rfl) ?_
          repeat (go_big_quiet_step ((go_at_call 47; exact quiet_ret (HSj.out _))))
          refine wpQuiet_end (fun z => ?_)
          go_wp2_with fail
          go_ret
          exact Ret.mk (by rw [HFj.out (by rw [HPj.out]; rw [HkV.out, HtV.out]; rfl)]; rfl) (HX2.out.ext _)
        · have HtV : Hid (decide (T = (signS KJ).data.toList) = false) := decide_eq_false (fun e => ht (ba_eq (by rw [HTd.out]; exact e)))
          obtain ⟨b1, b2⟩ := str_facts ht
          clear ht
          go_wp2_with fail
          refine wp_region_ext (by kernel_rfl) (by kernel_rfl) ?_
          repeat (go_big_quiet_step ((go_at_call 47; exact quiet_ret (HSj.out _))))
          refine wpQuiet_end (fun z => ?_)
          go_wp2_with fail
          exact ⟨⟨j + 1, by go_num, by omega, Lib.hid ⟨HNx.out (by rw [HPj.out]; rw [HkV.out, HtV.out]; rfl), HE.out.ext _⟩⟩, by simp [intOf]; omega⟩
      · have e1 : ((k : Int) == 2) = false := beq_eq_false_iff_ne.2 (by omega)
        have e2 : (k == 2) = false := beq_eq_false_iff_ne.2 hk
        have HkV := Lib.hid (decide_eq_false hk)
        clear hk
        go_wp2_with fail
        refine wp_region_ext (by kernel_rfl) (by kernel_rfl) ?_
        repeat (go_big_quiet_step ((go_at_call 47; exact quiet_ret (HSj.out _))))
        refine wpQuiet_end (fun z => ?_)
        go_wp2_with fail
        exact ⟨⟨j + 1, by go_num, by omega, Lib.hid ⟨HNx.out (by rw [HPj.out]; rw [HkV.out]; rfl), HE.out.ext _⟩⟩, by simp [intOf]; omega⟩
    · obtain rfl : j = 5 := by omega
      have hn8 : decide ((5 : Int) < 5) = false := by decide
      have HR := Lib.hid (HN.out HH.out.1)
      have HE := Lib.hid (((((Ex.refl w).alloc (.cells #[.int .i64 (k : Nat), .string TB, .int .i64 (q1 : Nat), .int .i64 (q2 : Nat)] 66)).alloc (.cells #[.int .i64 15, .int .i64 18, .int .i64 19, .int .i64 20, .int .i64 21] 3)).trans HH.out.2))
      clear hlt HH
      go_wp2_with fail
      go_ret
      exact Ret.mk (by rw [HR.out]; rfl) HE.out
set_option maxRecDepth 40000 in
set_option maxHeartbeats 3200000 in
theorem rBinary_c (x : Wd) (lv : Nat) (w : World) : Calls Tryz.prog 85 #[wdV x, .int .i64 (lv : Nat)] w (Ret w (.int .i64 (firK biK (biP x lv)))) := by
  have HF : Hid (∀ j, j < 5 → (∀ i, i < j → biP x lv (biK i) = false) → biP x lv (biK j) = true → (firK biK (biP x lv)) = biK j) := fun j hj hn h => fir_at hj hn h
  have HN : Hid ((∀ i, i < 5 → biP x lv (biK i) = false) → (firK biK (biP x lv)) = 0) := fun h => fir_none h
  have HS := Lib.hid (fun j (hj : j < 5) w => rSignK_c (biK j) w (biK_ok j hj))
  have HL := Lib.hid (fun j (hj : j < 5) w => rLevel_c (biK j) w (biK_ok j hj))
  have HG := Lib.hid biK_get
  generalize (firK biK (biP x lv)) = RES at *
  have HP : Hid (∀ k, biP x lv k = (decide (levelI k = lv) && decide (x.text = (signS k).data.toList) && (decide (x.kind = 3) || decide (x.kind = 2)))) := fun k => rfl
  generalize biP x lv = PP at *
  unfold wdV
  obtain ⟨k, T, q1, q2⟩ := x
  dsimp only
  obtain ⟨TB, hTB⟩ : ∃ TB : ByteArray, TB = ⟨T.toArray⟩ := ⟨_, rfl⟩
  have hTd : TB.data.toList = T := by rw [hTB]
  rw [← hTB]
  dsimp only at HP
  have HX : Hid (Blk ((w.alloc (.cells #[.int .i64 (k : Nat), .string TB, .int .i64 (q1 : Nat), .int .i64 (q2 : Nat)] 66)).alloc (.cells #[.int .i64 17, .int .i64 16, .int .i64 6, .int .i64 7, .int .i64 8] 3)) w.heap.size 66 [.int .i64 (k : Nat), .string TB, .int .i64 (q1 : Nat), .int .i64 (q2 : Nat)]) := (Blk.new w _ _).alloc _
  have HK : Hid (Blk ((w.alloc (.cells #[.int .i64 (k : Nat), .string TB, .int .i64 (q1 : Nat), .int .i64 (q2 : Nat)] 66)).alloc (.cells #[.int .i64 17, .int .i64 16, .int .i64 6, .int .i64 7, .int .i64 8] 3)) (w.heap.size + 1) 3 (([17, 16, 6, 7, 8] : List Int).map (Value.int .i64))) := Blk.new' _ (by simp) _ _
  have HTd := Lib.hid hTd
  clear hTB hTd
  go_enter Tryz.func85, Tryz.ntmps85
  go_wp2_with fail
  generalize hnb : w.heap.size + 1 = nb at *
  clear hnb
  go_loopw [6] (fun i wr => ∃ j : Nat, i = .int .i64 j ∧ j ≤ 5 ∧ Hid ((∀ i, i < j → PP (biK i) = false) ∧ Ex ((w.alloc (.cells #[.int .i64 (k : Nat), .string TB, .int .i64 (q1 : Nat), .int .i64 (q2 : Nat)] 66)).alloc (.cells #[.int .i64 17, .int .i64 16, .int .i64 6, .int .i64 7, .int .i64 8] 3)) wr)) (fun i _ => 5 - (intOf i).toNat)
  case atStart => exact ⟨0, rfl, by omega, Lib.hid ⟨fun i h => absurd h (by omega), Ex.refl _⟩⟩
  case round =>
    obtain ⟨j, rfl, hj, HH⟩ := hrel
    by_cases hlt : j < 5
    · have m1 : (j : Int) < 5 := by omega
      have m0 : (0 : Int) ≤ (j : Int) := by omega
      have hx := HX.out.ex HH.out.2
      have x0 : wr.cell? ⟨w.heap.size, 0, none⟩ = some (.int .i64 (k : Nat)) := hx.cell 0
      have x1 : wr.cell? ⟨w.heap.size, 1, none⟩ = some (.string TB) := hx.cell 1
      have xl := hx.lt
      have hkk := HK.out.ex HH.out.2
      have k0 : wr.cell? ⟨nb, j, none⟩ = some (.int .i64 (biK j)) := by rw [hkk.cell]; exact HG.out j hlt
      have kl := hkk.lt
      have HSj := Lib.hid (HS.out j hlt)
      have HLj := Lib.hid (HL.out j hlt)
      have HPj := Lib.hid (HP.out (biK j))
      have HFj := Lib.hid (HF.out j hlt HH.out.1)
      have HNx : Hid (PP (biK j) = false → ∀ i, i < j + 1 → PP (biK i) = false) := fun h i hi => by
        by_cases hij : i = j
        · rw [hij]; exact h
        · exact HH.out.1 i (by omega)
      have HE := Lib.hid HH.out.2
      have HX2 := Lib.hid (((((Ex.refl w).alloc (.cells #[.int .i64 (k : Nat), .string TB, .int .i64 (q1 : Nat), .int .i64 (q2 : Nat)] 66)).alloc (.cells #[.int .i64 17, .int .i64 16, .int .i64 6, .int .i64 7, .int .i64 8] 3)).trans HH.out.2))
      generalize biK j = KJ at *
      clear hx hkk HH
      by_cases hlv : levelI KJ = lv
      · have l1 : (((levelI KJ : Nat) : Int) == (lv : Int)) = true := by rw [beq_iff_eq]; omega
        have l2 : (levelI KJ == lv) = true := by rw [beq_iff_eq]; exact hlv
        have HlV := Lib.hid (decide_eq_true hlv)
        generalize levelI KJ = LJ at *
        clear hlv
        by_cases ht : TB = signS KJ
        · have HtV : Hid (decide (T = (signS KJ).data.toList) = true) := decide_eq_true (by rw [← HTd.out, ht])
          rw [← ht] at HSj
          clear ht
          by_cases hk3 : k = 3
          · have HkV := Lib.hid (decide_eq_true hk3)
            have ea1 : ((k : Int) == 3) = true := by rw [beq_iff_eq]; omega
            have ea2 : (k == 3) = true := by rw [beq_iff_eq]; omega
            clear hk3
            go_wp2_with fail
            refine wp_region_ext (by kernel_rfl) (by kernel_rfl) ?_
            repeat (go_big_quiet_step ((first | (go_at_call 47; exact quiet_ret (HSj.out _)) | (go_at_call 46; exact quiet_ret (HLj.out _)))))
            refine wpQuiet_end (fun z => ?_)
            go_wp2_with fail
            go_ret
            exact Ret.mk (by rw [HFj.out (by rw [HPj.out]; rw [HlV.out, HtV.out, HkV.out]; rfl)]; rfl) (HX2.out.ext _)
          · have HkV := Lib.hid (decide_eq_false hk3)
            by_cases hk2 : k = 2
            · have HkW := Lib.hid (decide_eq_true hk2)
              have ea1 : ((k : Int) == 3) = false := beq_eq_false_iff_ne.2 (by omega)
              have ea2 : (k == 3) = false := beq_eq_false_iff_ne.2 (by omega)
              have eb1 : ((k : Int) == 2) = true := by rw [beq_iff_eq]; omega
              have eb2 : (k == 2) = true := by rw [beq_iff_eq]; omega
              clear hk3 hk2
              go_wp2_with fail
              refine wp_region_ext (by kernel_rfl) (by kernel_rfl) ?_
              repeat (go_big_quiet_step ((first | (go_at_call 47; exact quiet_ret (HSj.out _)) | (go_at_call 46; exact quiet_ret (HLj.out _)))))
              refine wpQuiet_end (fun z => ?_)
              go_wp2_with fail
              go_ret
              exact Ret.mk (by rw [HFj.out (by rw [HPj.out]; rw [HlV.out, HtV.out, HkV.out, HkW.out]; rfl)]; rfl) (HX2.out.ext _)
            · have HkW := Lib.hid (decide_eq_false hk2)
              have ea1 : ((k : Int) == 3) = false := beq_eq_false_iff_ne.2 (by omega)
              have ea2 : (k == 3) = false := beq_eq_false_iff_ne.2 (by omega)
              have eb1 : ((k : Int) == 2) = false := beq_eq_false_iff_ne.2 (by omega)
              have eb2 : (k == 2) = false := beq_eq_false_iff_ne.2 (by omega)
              clear hk3 hk2
              go_wp2_with fail
              refine wp_region_ext (by kernel_rfl) (by kernel_rfl) ?_
              repeat (go_big_quiet_step ((first | (go_at_call 47; exact quiet_ret (HSj.out _)) | (go_at_call 46; exact quiet_ret (HLj.out _)))))
              refine wpQuiet_end (fun z => ?_)
              go_wp2_with fail
              exact ⟨⟨j + 1, by go_num, by omega, Lib.hid ⟨HNx.out (by rw [HPj.out]; rw [HlV.out, HtV.out, HkV.out, HkW.out]; rfl), HE.out.ext _⟩⟩, by simp [intOf]; omega⟩
        · have HtV : Hid (decide (T = (signS KJ).data.toList) = false) := decide_eq_false (fun e => ht (ba_eq (by rw [HTd.out]; exact e)))
          obtain ⟨b1, b2⟩ := str_facts ht
          clear ht
          go_wp2_with fail
          refine wp_region_ext (by kernel_rfl) (by kernel_rfl) ?_
          repeat (go_big_quiet_step ((first | (go_at_call 47; exact quiet_ret (HSj.out _)) | (go_at_call 46; exact quiet_ret (HLj.out _)))))
          refine wpQuiet_end (fun z => ?_)
          go_wp2_with fail
          exact ⟨⟨j + 1, by go_num, by omega, Lib.hid ⟨HNx.out (by rw [HPj.out]; rw [HlV.out, HtV.out]; rfl), HE.out.ext _⟩⟩, by simp [intOf]; omega⟩
      · have l1 : (((levelI KJ : Nat) : Int) == (lv : Int)) = false := beq_eq_false_iff_ne.2 (by omega)
        have l2 : (levelI KJ == lv) = false := beq_eq_false_iff_ne.2 hlv
        have HlV := Lib.hid (decide_eq_false hlv)
        generalize levelI KJ = LJ at *
        clear hlv
        go_wp2_with fail
        refine wp_region_ext (by kernel_rfl) (by kernel_rfl) ?_
        repeat (go_big_quiet_step ((first | (go_at_call 47; exact quiet_ret (HSj.out _)) | (go_at_call 46; exact quiet_ret (HLj.out _)))))
        refine wpQuiet_end (fun z => ?_)
        go_wp2_with fail
        exact ⟨⟨j + 1, by go_num, by omega, Lib.hid ⟨HNx.out (by rw [HPj.out]; rw [HlV.out]; rfl), HE.out.ext _⟩⟩, by simp [intOf]; omega⟩
    · obtain rfl : j = 5 := by omega
      have hn8 : decide ((5 : Int) < 5) = false := by decide
      have HR := Lib.hid (HN.out HH.out.1)
      have HE := Lib.hid (((((Ex.refl w).alloc (.cells #[.int .i64 (k : Nat), .string TB, .int .i64 (q1 : Nat), .int .i64 (q2 : Nat)] 66)).alloc (.cells #[.int .i64 17, .int .i64 16, .int .i64 6, .int .i64 7, .int .i64 8] 3)).trans HH.out.2))
      clear hlt HH
      go_wp2_with fail
      go_ret
      exact Ret.mk (by rw [HR.out]; rfl) HE.out
end Go.Proofs.YthjalkonlcjhnaaGreatDoor
