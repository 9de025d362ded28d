/-
  Numbers: the examples of the chapter.
  Conditions: the world's tables are as laid (Env).
-/
import Derived.Test.YtjbfoanboidkbaaDoorNd
import Derived.Test.YtjbfoanboidkbaaDoorNe
namespace Go.Proofs.YtjbfoanboidkbaaDoor
open Go.RowKit Nu Bn
theorem two_eq {a b c d : Int} (h : a = c) (k : b = d) : Two a b = Two c d := by rw [h, k]
theorem Ret.cast {P : Program} {f : FuncId} {args : Array Value} {w : World} {u v : Value} (h : Calls P f args w (Ret w u)) (e : u = v) : Calls P f args w (Ret w v) := e ▸ h
theorem ex_floor (w : World) : Calls Tryd.prog 11 #[.int .i64 (-7), .int .i64 2] w (Ret w (Two (-4) 0)) := Ret.cast (floor_ok (-7) 2 w (by decide) (by decide) (by decide)) (two_eq (by decide) rfl)
theorem ex_choose (w : World) : Calls Tryd.prog 13 #[.int .i64 5, .int .i64 2] w (Ret w (Two 10 0)) := Ret.cast (choose_ok 5 2 w (by decide) (by decide)) (two_eq (by decide) (by decide))
theorem ex_gcd (w : World) : Calls Tryd.prog 12 #[.int .i64 (-12), .int .i64 18] w (Ret w (Two 6 0)) := Ret.cast (gcd_ok (-12) 18 w (by decide) (by decide)) (two_eq (by decide) rfl)
theorem ex_parse (w : World) (hE : Env w) : Calls Tryd.prog 20 #[.string ⟨#[49, 49, 50, 53, 56, 57, 57, 57, 48, 54, 56, 52, 50, 54, 50, 52]⟩] w (Ret w (Two 1125899906842624 0)) := Ret.cast (parse_c _ w hE (by decide)) (two_eq (by decide +kernel) (by decide +kernel))
theorem ex_big (w : World) (hE : Env w) : Calls Tryd.prog 20 #[.string ⟨#[49, 49, 50, 53, 56, 57, 57, 57, 48, 54, 56, 52, 50, 54, 50, 53]⟩] w (Ret w (Two 0 9)) := Ret.cast (parse_c _ w hE (by decide)) (two_eq (by decide +kernel) (by decide +kernel))
set_option maxHeartbeats 800000 in
theorem awake_c (w : World) (hE : Env w) : Calls Tryd.prog 10 #[] w (Ret w (.bool true)) := by
  have H1 := Lib.hid ex_floor
  have H2 := Lib.hid ex_choose
  have H3 := Lib.hid ex_gcd
  have H4 := Lib.hid (fun w' (hx : Ex w w') => ex_parse w' (hE.ex hx))
  have H5 := Lib.hid (fun w' (hx : Ex w w') => ex_big w' (hE.ex hx))
  unfold Two at *
  clear hE
  go_enter Tryd.func10, Tryd.ntmps10
  go_wp2_with fail
  refine (H1.out _).mono ?_
  rintro e w' ⟨rfl, z, rfl⟩
  go_wp2_with fail
  refine (H2.out _).mono ?_
  rintro e w' ⟨rfl, z2, rfl⟩
  go_wp2_with fail
  refine (H3.out _).mono ?_
  rintro e w' ⟨rfl, z3, rfl⟩
  go_wp2_with fail
  refine (H4.out _ ((((Ex.refl _).ext _).ext _).ext _)).mono ?_
  rintro e w' ⟨rfl, z4, rfl⟩
  go_wp2_with fail
  refine (H5.out _ (((((Ex.refl _).ext _).ext _).ext _).ext _)).mono ?_
  rintro e w' ⟨rfl, z5, rfl⟩
  go_wp2_with fail
  go_ret
  exact Ret.mk rfl ((((((Ex.refl _).ext _).ext _).ext _).ext _).ext _)
end Go.Proofs.YtjbfoanboidkbaaDoor
