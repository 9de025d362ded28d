/-
  Numbers: the reference's text and parse.
  Conditions: the world's tables are as laid (Env).
-/
import Derived.Test.YtjbfoanboidkbaaDoorNf
import Derived.Deep.RegionWith
import Derived.Laws.IdiomStrings
import Derived.Lib.ItoaLen
import Derived.Lib.ItoaMem
namespace Go.Proofs.YtjbfoanboidkbaaDoor
open Go.RowKit Nu Bn
theorem conv_cell (W : World) (g : Nat) (n : Nat) (hn : n < 256) (hc : W.cell? ⟨g, 0, none⟩ = some (.int .u8 (n : Int))) :
    Sem.run Tryd.prog (convert 40 9 (.slice (some ⟨g, 0, none⟩) 1 1)) W = .ok (.string ⟨#[UInt8.ofNat n]⟩) W := by
  have h := run_convert_bytes_back (P := Tryd.prog) W 40 9 5 ⟨g, 0, none⟩ 1 [UInt8.ofNat n] Tryd.underlying40 Tryd.underlying5 Tryd.underlying9 (fun j hj => by
    have : j = 0 := by simp at hj; omega
    subst this
    show W.cell? ⟨g, 0, none⟩ = _
    rw [hc]
    simp only [List.getElem_cons_zero, UInt8.toNat_ofNat']
    rw [Nat.mod_eq_of_lt (by omega)])
  exact h
theorem conv_new (W : World) (g n : Nat) (hn : n < 10) (hg : g = W.heap.size) :
    Sem.run Tryd.prog (convert 40 9 (.slice (some ⟨g, 0, none⟩) 1 1)) (W.alloc (.cells #[.int .u8 (48 + (n : Int))] 5)) = .ok (.string ⟨#[UInt8.ofNat (48 + n)]⟩) (W.alloc (.cells #[.int .u8 (48 + (n : Int))] 5)) := by
  have h := Blk.new W 5 [.int .u8 (48 + (n : Int))]
  subst hg
  exact conv_cell _ _ (48 + n) (by omega) (by rw [h.cell 0]; simp)
theorem conv_ext (W : World) (g n : Nat) (z : Up (W.alloc (.cells #[.int .u8 (48 + (n : Int))] 5))) (hn : n < 10) (hg : g = W.heap.size) :
    Sem.run Tryd.prog (convert 40 9 (.slice (some ⟨g, 0, none⟩) 1 1)) (ext (W.alloc (.cells #[.int .u8 (48 + (n : Int))] 5)) z) = .ok (.string ⟨#[UInt8.ofNat (48 + n)]⟩) (ext (W.alloc (.cells #[.int .u8 (48 + (n : Int))] 5)) z) := by
  have h := (Blk.new W 5 [.int .u8 (48 + (n : Int))]).ex ⟨z, rfl⟩
  subst hg
  exact conv_cell _ _ (48 + n) (by omega) (by rw [h.cell 0]; simp)
theorem conv_drew (W : World) (g n : Nat) (hn : n < 10) (hg : g = W.heap.size) :
    Sem.run Tryd.prog (convert 40 9 (.slice (some ⟨g, 0, none⟩) 1 1)) (W.alloc (.cells #[.int .u8 (48 + (n : Int))] 5)).drew = .ok (.string ⟨#[UInt8.ofNat (48 + n)]⟩) (W.alloc (.cells #[.int .u8 (48 + (n : Int))] 5)).drew := by
  have h := (Blk.new W 5 [.int .u8 (48 + (n : Int))]).drew
  subst hg
  exact conv_cell _ _ (48 + n) (by omega) (by rw [h.cell 0]; simp)
theorem conv_ext_drew (W : World) (g n : Nat) (z : Up (W.alloc (.cells #[.int .u8 (48 + (n : Int))] 5)).drew) (hn : n < 10) (hg : g = W.heap.size) :
    Sem.run Tryd.prog (convert 40 9 (.slice (some ⟨g, 0, none⟩) 1 1)) (ext (W.alloc (.cells #[.int .u8 (48 + (n : Int))] 5)).drew z) = .ok (.string ⟨#[UInt8.ofNat (48 + n)]⟩) (ext (W.alloc (.cells #[.int .u8 (48 + (n : Int))] 5)).drew z) := by
  have h := ((Blk.new W 5 [.int .u8 (48 + (n : Int))]).drew).ex ⟨z, rfl⟩
  subst hg
  exact conv_cell _ _ (48 + n) (by omega) (by rw [h.cell 0]; simp)
theorem str_app (D E : List UInt8) : (⟨D.toArray⟩ : ByteArray) ++ (⟨E.toArray⟩ : ByteArray) = ⟨(D ++ E).toArray⟩ := by
  apply ByteArray.ext
  simp
attribute [local go_sem] conv_new conv_ext conv_drew conv_ext_drew
set_option maxRecDepth 100000 in
theorem rText_digit (n : Nat) (w : World) (h : n < 10) : Calls Tryd.prog 19 #[.int .i64 n] w (Ret w (.string ⟨#[UInt8.ofNat (48 + n)]⟩)) := by
  have d1 : decide ((n : Int) < 0) = false := by simp
  have d2 : decide ((n : Int) < 10) = true := by simp; omega
  have HR : ∃ r, r = UInt8.ofNat (48 + n) := ⟨_, rfl⟩
  go_enter Tryd.func19, Tryd.ntmps19
  go_wp2_with fail
  go_ret
  exact Ret.mk (by simp) ((Ex.refl _).alloc _)
set_option maxRecDepth 100000 in
set_option maxHeartbeats 1000000 in
theorem rText_c : ∀ (n : Nat) (w : World), n ≤ 1125899906842624 → Calls Tryd.prog 19 #[.int .i64 n] w (Ret w (.string ⟨(Lib.decDigits n).toArray⟩)) := by
  intro n
  induction n using Nat.strongRecOn with
  | _ n ih =>
    intro w hn
    by_cases h : n < 10
    · rw [Lib.decDigits, dif_pos h]
      exact rText_digit n w h
    · have e := Lib.decDigits.eq_1 n
      rw [dif_neg h] at e
      have IH := Lib.hid (fun w' => ih (n / 10) (by omega) w' (by omega))
      rw [e]
      have d1 : decide ((n : Int) < 0) = false := by simp
      have d2 : decide ((n : Int) < 10) = false := by simp; omega
      have hd : n % 10 < 10 := by omega
      have hq : n / 10 ≤ 1125899906842624 := by omega
      have e1 : (n : Int) / 10 = ((n / 10 : Nat) : Int) := by omega
      have e2 : (n : Int) % 10 = ((n % 10 : Nat) : Int) := by omega
      have f1 : (n : Int).tdiv 10 = ((n / 10 : Nat) : Int) := by rw [Int.tdiv_eq_ediv_of_nonneg (by omega)]; omega
      have f2 : (n : Int).tmod 10 = ((n % 10 : Nat) : Int) := by rw [Int.tmod_eq_emod_of_nonneg (by omega)]; omega
      have f3 : IntKind.i64.wrap ((n / 10 : Nat) : Int) = ((n / 10 : Nat) : Int) := IntWalk.i64_in _ (by omega)
      have f6 : IntKind.i64.wrap ((n % 10 : Nat) : Int) = ((n % 10 : Nat) : Int) := IntWalk.i64_in _ (by omega)
      have f4 : IntKind.i64.wrap (48 + ((n % 10 : Nat) : Int)) = 48 + ((n % 10 : Nat) : Int) := IntWalk.i64_in _ (by omega)
      have f5 : IntKind.u8.wrap (48 + ((n % 10 : Nat) : Int)) = 48 + ((n % 10 : Nat) : Int) := by
        rw [IntKind.wrap_u8]; omega
      have hD : (Lib.decDigits (n / 10)).length ≤ 30 := by
        have h0 := Lib.itoa_length_le ((n / 10 : Nat) : Int) (by omega) (by omega)
        rw [Lib.itoa_nonneg] at h0
        omega
      clear ih e
      generalize Lib.decDigits (n / 10) = D at *
      generalize n / 10 = q at *
      generalize n % 10 = r at *
      go_enter Tryd.func19, Tryd.ntmps19
      go_wp2_with fail
      go_region_with (go_at_call 19; refine (IH.out _).mono ?_; rintro e w' ⟨rfl, z, rfl⟩)
      all_goals
        go_wp2_with fail
        go_ret
        exact Ret.mk (by rw [str_app]; simp; rfl) (by repeat (first | exact Ex.refl _ | apply Ex.ext | apply Ex.alloc | apply Ex.drew))
/-- the reference's text -/
theorem rText_any (n : Int) (w : World) (h : isB n = true) : Calls Tryd.prog 19 #[.int .i64 n] w (Ret w (.string ⟨(Lib.itoa n).toArray⟩)) := by
  have b1 := (isB_iff n).1 h
  by_cases hn : n < 0
  · obtain ⟨m, rfl⟩ : ∃ m : Nat, n = -(m : Int) := ⟨n.natAbs, by omega⟩
    rw [Lib.itoa_neg m (by omega)]
    have IH := Lib.hid (fun w' => rText_c m w' (by omega))
    have hD : (Lib.decDigits m).length ≤ 30 := by
      have h0 := Lib.itoa_length_le (m : Int) (by omega) (by omega)
      rw [Lib.itoa_nonneg] at h0
      omega
    generalize Lib.decDigits m = D at *
    have hm : m ≤ 1125899906842624 := by omega
    have d1 : decide (-(m : Int) < 0) = true := by simp; omega
    clear h b1
    go_enter Tryd.func19, Tryd.ntmps19
    go_wp2_with fail
    refine (IH.out _).mono ?_
    rintro e w' ⟨rfl, z, rfl⟩
    go_wp2_with fail
    all_goals
      go_ret
      exact Ret.mk (by rw [show (⟨#[45]⟩ : ByteArray) = ⟨[45].toArray⟩ from rfl, str_app]; simp) ((Ex.refl _).ext _)
  · obtain ⟨m, rfl⟩ : ∃ m : Nat, n = (m : Int) := ⟨n.toNat, by omega⟩
    rw [Lib.itoa_nonneg]
    exact rText_c m w (by omega)
end Go.Proofs.YtjbfoanboidkbaaDoor
