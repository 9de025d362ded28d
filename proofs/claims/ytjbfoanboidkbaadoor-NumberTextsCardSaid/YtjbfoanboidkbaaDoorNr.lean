/-
  The walk of the law Texts.
  Conditions: the world's tables are as laid (Env).
-/
import Derived.Test.YtjbfoanboidkbaaDoorNk
import Derived.Test.YtjbfoanboidkbaaDoorNq
namespace Go.Proofs.YtjbfoanboidkbaaDoor
open Go.RowKit Nu Bn
set_option maxHeartbeats 2000000 in
theorem texts_c (n : Int) (s : ByteArray) (w : World) (hE : Env w) : Calls Tryd.prog 6 #[.int .i64 n, .string s] w (Ret w (.bool true)) := by
  have HA := Lib.hid (fun w' (hx : Ex w w') => awake_c w' (hE.ex hx))
  have HI := Lib.hid (rIs_c n)
  by_cases h2 : 200 < s.size
  · have d1 : decide ((200 : Int) < (s.size : Int)) = true := decide_eq_true (by omega)
    clear hE
    go_enter Tryd.func6, Tryd.ntmps6
    go_wp2_with fail
    refine (HA.out _ (Ex.refl _)).mono ?_; rintro e w' ⟨rfl, z0, rfl⟩
    go_wp2_with fail
    go_ret
    exact Ret.mk rfl ((Ex.refl _).ext _)
  · have d1 : decide ((200 : Int) < (s.size : Int)) = false := decide_eq_false (by omega)
    have HP : (∃ (V E : Int) (_ : Hid (∀ w', Ex w w' → Calls Tryd.prog 20 #[.string s] w' (Ret w' (Two V E)))) (_ : Hid (∀ w', Calls Tryd.prog 21 #[.string s] w' (Ret w' (Two V E)))), decide ((100 : Int) < (s.size : Int)) = false) ∨ (∃ (_ : Hid (∀ w', Calls Tryd.prog 20 #[.string s] w' (Ret w' (Two 0 5)))), decide ((100 : Int) < (s.size : Int)) = true) := by
      by_cases h : s.size ≤ 100
      · exact .inl ⟨_, _, Lib.hid fun w' hx => parse_c s w' (hE.ex hx) h, Lib.hid fun w' => rParse_c s w' h, decide_eq_false (by omega)⟩
      · exact .inr ⟨Lib.hid fun w' => parse_long s w' (by omega), decide_eq_true (by omega)⟩
    have HT : (∃ (T : ByteArray) (_ : Hid (∀ w', Ex w w' → Calls Tryd.prog 18 #[.int .i64 n] w' (Ret w' (.tuple #[.string T, .int .i64 0])))) (_ : Hid (∀ w', Calls Tryd.prog 19 #[.int .i64 n] w' (Ret w' (.string T)))), isB n = true) ∨ (∃ (_ : Hid (∀ w', Calls Tryd.prog 18 #[.int .i64 n] w' (Ret w' (.tuple #[.string ⟨#[]⟩, .int .i64 2])))), isB n = false) := by
      cases h : isB n
      · exact .inr ⟨Lib.hid fun w' => text_bad n w' h, rfl⟩
      · exact .inl ⟨⟨(Lib.itoa n).toArray⟩, Lib.hid fun w' hx => text_ok n w' (hE.ex hx) h, Lib.hid fun w' => rText_any n w' h, rfl⟩
    unfold Two at *
    clear hE
    rcases HT with ⟨T, T1, T2, hb⟩ | ⟨T1, hb⟩
    all_goals
      rcases HP with ⟨V, E, P1, P2, d2⟩ | ⟨P1, d2⟩
    all_goals
      go_enter Tryd.func6, Tryd.ntmps6
      go_wp2_with (first
        | (go_at_call 10; refine (HA.out _ (Ex.refl _)).mono ?_; rintro e w' ⟨rfl, z0, rfl⟩)
        | (go_at_call 18; refine (T1.out _ (by repeat (first | exact Ex.refl _ | apply Ex.ext))).mono ?_; rintro e w' ⟨rfl, z1, rfl⟩)
        | (go_at_call 18; refine (T1.out _).mono ?_; rintro e w' ⟨rfl, z1, rfl⟩)
        | (go_at_call 14; refine (HI.out _).mono ?_; rintro e w' ⟨rfl, z2, rfl⟩)
        | (go_at_call 19; refine (T2.out _).mono ?_; rintro e w' ⟨rfl, z3, rfl⟩)
        | (go_at_call 20; refine (P1.out _ (by repeat (first | exact Ex.refl _ | apply Ex.ext))).mono ?_; rintro e w' ⟨rfl, z4, rfl⟩)
        | (go_at_call 20; refine (P1.out _).mono ?_; rintro e w' ⟨rfl, z4, rfl⟩)
        | (go_at_call 21; refine (P2.out _).mono ?_; rintro e w' ⟨rfl, z5, rfl⟩))
    all_goals
      go_ret
      exact Ret.mk (by simp) (by repeat (first | exact Ex.refl _ | apply Ex.ext))
end Go.Proofs.YtjbfoanboidkbaaDoor
