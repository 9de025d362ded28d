/-
  The reference's decimal, walked.
  Conditions: as each theorem says.
-/
import Derived.Test.YtpmponafjhnegaaGreatDoorWb
import Derived.Laws.IdiomStrings
import Derived.Lib.ItoaMem
namespace Go.Proofs.YtpmponafjhnegaaGreatDoor
open Go.RowKit Nu
theorem cv_cell (W : World) (g : Nat) (n : Nat) (hn : n < 256) (hc : W.cell? ⟨g, 0, none⟩ = some (.int .u8 (n : Int))) :
    Sem.run Tryz.prog (convert 56 9 (.slice (some ⟨g, 0, none⟩) 1 1)) W = .ok (.string ⟨#[UInt8.ofNat n]⟩) W := by
  have h := run_convert_bytes_back (P := Tryz.prog) W 56 9 5 ⟨g, 0, none⟩ 1 [UInt8.ofNat n] Tryz.underlying56 Tryz.underlying5 Tryz.underlying9 (fun j hj => by
    have : j = 0 := by simp at hj; omega
    subst this
    show W.cell? ⟨g, 0, none⟩ = _
    rw [hc]
    simp only [List.getElem_cons_zero, UInt8.toNat_ofNat']
    rw [Nat.mod_eq_of_lt (by omega)])
  exact h
theorem cv_new (W : World) (g n : Nat) (hn : n < 10) (hg : g = W.heap.size) :
    Sem.run Tryz.prog (convert 56 9 (.slice (some ⟨g, 0, none⟩) 1 1)) (W.alloc (.cells #[.int .u8 (48 + (n : Int))] 5)) = .ok (.string ⟨#[UInt8.ofNat (48 + n)]⟩) (W.alloc (.cells #[.int .u8 (48 + (n : Int))] 5)) := by
  have h := Blk.new W 5 [.int .u8 (48 + (n : Int))]
  subst hg
  exact cv_cell _ _ (48 + n) (by omega) (by rw [h.cell 0]; simp)
attribute [local go_sem] cv_new
theorem cat_bs (D E : List UInt8) : (⟨D.toArray⟩ : ByteArray) ++ (⟨E.toArray⟩ : ByteArray) = ⟨(D ++ E).toArray⟩ := by
  apply ByteArray.ext
  simp
set_option maxRecDepth 100000 in
set_option maxHeartbeats 1000000 in
theorem rdec_c : ∀ (n : Nat) (w : World), n ≤ 1125899906842624 → Calls Tryz.prog 66 #[.int .i64 n] w (Ret w (.string ⟨(Lib.decDigits n).toArray⟩)) := by
  intro n
  induction n using Nat.strongRecOn with
  | _ n ih =>
    intro w hn
    have d1 : decide ((n : Int) < 0) = false := by simp
    have hd : n % 10 < 10 := by omega
    have e2 : (n : Int) % 10 = ((n % 10 : Nat) : Int) := by omega
    have f2 : (n : Int).tmod 10 = ((n % 10 : Nat) : Int) := by rw [Int.tmod_eq_emod_of_nonneg (by omega)]; omega
    have f6 : IntKind.i64.wrap ((n % 10 : Nat) : Int) = ((n % 10 : Nat) : Int) := IntWalk.i64_in _ (by omega)
    have f4 : IntKind.i64.wrap (48 + ((n % 10 : Nat) : Int)) = 48 + ((n % 10 : Nat) : Int) := IntWalk.i64_in _ (by omega)
    have f5 : IntKind.u8.wrap (48 + ((n % 10 : Nat) : Int)) = 48 + ((n % 10 : Nat) : Int) := by
      rw [IntKind.wrap_u8]; omega
    by_cases h : n < 10
    · have d2 : decide (10 ≤ (n : Int)) = false := by simp; omega
      have hr : n % 10 = n := by omega
      rw [Lib.decDigits, dif_pos h]
      rw [hr] at f2 f6 f4 f5 e2
      clear ih
      go_enter Tryz.func66, Tryz.ntmps66
      go_wp2_with fail
      go_ret
      exact Ret.mk (by simp) ((Ex.refl _).alloc _)
    · have e := Lib.decDigits.eq_1 n
      rw [dif_neg h] at e
      have IH := Lib.hid (fun w' => ih (n / 10) (by omega) w' (by omega))
      rw [e]
      have d2 : decide (10 ≤ (n : Int)) = true := by simp; omega
      have e1 : (n : Int) / 10 = ((n / 10 : Nat) : Int) := by omega
      have f1 : (n : Int).tdiv 10 = ((n / 10 : Nat) : Int) := by rw [Int.tdiv_eq_ediv_of_nonneg (by omega)]; omega
      have f3 : IntKind.i64.wrap ((n / 10 : Nat) : Int) = ((n / 10 : Nat) : Int) := IntWalk.i64_in _ (by omega)
      have hD : (Lib.decDigits (n / 10)).length ≤ 30 := by
        have h0 := Lib.itoa_length_le ((n / 10 : Nat) : Int) (by omega) (by omega)
        rw [Lib.itoa_nonneg] at h0
        omega
      clear ih e
      generalize Lib.decDigits (n / 10) = D at *
      generalize n / 10 = q at *
      generalize n % 10 = r at *
      go_enter Tryz.func66, Tryz.ntmps66
      go_wp2_with fail
      refine (IH.out _).mono ?_
      rintro e9 w' ⟨rfl, hx⟩
      have HX := Lib.hid hx
      clear hx
      go_wp2_with fail
      go_ret
      exact Ret.mk (by first | rfl | (rw [cat_bs]; simp; done) | (rw [cat_bs]; simp; rfl)) (((Ex.refl _).alloc _).trans HX.out)
theorem rdecimal_c (n : Int) (w : World) (h0 : -1125899906842624 ≤ n) (h1 : n ≤ 1125899906842624) : Calls Tryz.prog 66 #[.int .i64 n] w (Ret w (.string (bs (Lib.itoa n)))) := by
  by_cases hn : n < 0
  · obtain ⟨m, rfl⟩ : ∃ m : Nat, n = -(m : Int) := ⟨n.natAbs, by omega⟩
    rw [Lib.itoa_neg m (by omega)]
    have IH := Lib.hid (fun w' => rdec_c m w' (by omega))
    have hD : (Lib.decDigits m).length ≤ 30 := by
      have h0 := Lib.itoa_length_le (m : Int) (by omega) (by omega)
      rw [Lib.itoa_nonneg] at h0
      omega
    generalize Lib.decDigits m = D at *
    have hm : m ≤ 1125899906842624 := by omega
    have d1 : decide (-(m : Int) < 0) = true := by simp; omega
    clear h0 h1
    go_enter Tryz.func66, Tryz.ntmps66
    go_wp2_with fail
    refine (IH.out _).mono ?_
    rintro e w' ⟨rfl, z, rfl⟩
    go_wp2_with fail
    all_goals
      go_ret
      exact Ret.mk (by rw [show (⟨#[45]⟩ : ByteArray) = ⟨[45].toArray⟩ from rfl, cat_bs]; simp) ((Ex.refl _).ext _)
  · obtain ⟨m, rfl⟩ : ∃ m : Nat, n = (m : Int) := ⟨n.toNat, by omega⟩
    rw [Lib.itoa_nonneg]
    exact rdec_c m w (by omega)
end Go.Proofs.YtpmponafjhnegaaGreatDoor
