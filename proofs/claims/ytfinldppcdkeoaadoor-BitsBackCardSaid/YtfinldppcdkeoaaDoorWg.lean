/-
  The lists of members, of the reference and of the program; counts.
  Conditions: valid sets, words below 2^64.
-/
import Derived.Test.YtfinldppcdkeoaaDoorWe
namespace Go.Proofs.YtfinldppcdkeoaaDoor
open Go.RowKit Bm
theorem info3 : (Tryd.prog.info? 3).map (fun i => (i.zero, i.size, i.bytes)) = some (some (.int .i64 0), 1, 8) := by kernel_rfl
theorem own_ex {w w' : World} {base : Nat} {e : TypeId} {size : Nat} {v : Value} {n : Nat} {xs : List Value} (h : w.ownsRow base e size v n xs) (hx : Ex w w') : w'.ownsRow base e size v n xs := by
  refine ⟨h.1, ?_⟩
  rcases h.2 with hn | ⟨g, cap, cur, rfl, hb, hg, rest⟩
  · exact .inl hn
  · exact .inr ⟨g, cap, cur, rfl, hb, (hx.below.block g (Array.getElem?_eq_some_iff.1 hg).1).trans hg, rest⟩
theorem own_base {w : World} {base base' : Nat} {e : TypeId} {size : Nat} {v : Value} {n : Nat} {xs : List Value} (h : w.ownsRow base e size v n xs) (hx : base' ≤ base) : w.ownsRow base' e size v n xs := by
  refine ⟨h.1, ?_⟩
  rcases h.2 with hn | ⟨g, cap, cur, rfl, hb, rest⟩
  · exact .inl hn
  · exact .inr ⟨g, cap, cur, rfl, by omega, rest⟩
theorem own_cells {w : World} {base : Nat} {e : TypeId} {v : Value} {n : Nat} {xs : List Value} (h : w.ownsRow base e 1 v n xs) : ∃ A c, v = .slice A n c ∧ Cells w A xs ∧ xs.length = n := by
  have hl : xs.length = n := by have := h.1; omega
  rcases h.2 with ⟨rfl, rfl⟩ | ⟨g, cap, cur, rfl, hb, hg, rest⟩
  · have : xs = [] := List.eq_nil_of_length_eq_zero hl
    subst this
    exact ⟨_, _, rfl, Cells.nil _ _, rfl⟩
  · refine ⟨_, _, rfl, fun j u hu => ⟨_, rfl, ?_, h.cells (g := g) rfl j u hu⟩, hl⟩
    have hlt := (Array.getElem?_eq_some_iff.1 hg).1
    unfold Addr.add
    split <;> exact hlt
theorem ex_own {W b c : World} {base : Nat} {e : TypeId} {size : Nat} {v : Value} {n : Nat} {xs : List Value} (h : Ex W b) (ho : b.ownsRow base e size v n xs) (hb : W.heap.size ≤ base) (hg : b.grownBy c v.ownBlock) : Ex W c :=
  h.grown hg (fun k hk => by have := (ho.lt k hk).1; omega)
def RetOwn (w : World) (xs : List Value) (e : Ending) (w' : World) : Prop := ∃ v, e = .returned v ∧ w'.ownsRow w.heap.size 3 1 v xs.length xs ∧ Ex w w'
theorem natsV_append (l m : List Nat) : natsV (l ++ m) = natsV l ++ natsV m := by simp [natsV]
theorem natsV_length (l : List Nat) : (natsV l).length = l.length := by simp [natsV]
theorem mems_succ (k : Nat) (ws : List Nat) : mems (k + 1) ws = mems k ws ++ if bitAt ws k then [k] else [] := by
  unfold mems; rw [List.range_succ, List.filter_append]; cases h : bitAt ws k <;> simp [h]
theorem mems_le (k : Nat) (ws : List Nat) : (mems k ws).length ≤ k := by
  unfold mems; have := List.length_filter_le (bitAt ws) (List.range k); simpa using this
set_option maxHeartbeats 1600000 in
theorem rMembers_c (n : Nat) (A : Option Addr) (c : Nat) (ws : List Nat) (w : World) (hC : Cells w A (u64s ws)) (hw : Wd ws) (hv : Valid n ws) :
    Calls Tryd.prog 23 #[.agg #[.int .i64 n, .slice A ws.length c]] w (RetOwn w (natsV (mems n ws))) := by
  have hn := hv.le
  have hlen := hv.len
  have HB := Lib.hid (fun (w' : World) (hx : Ex w w') (i : Nat) (hi : i < n) => bit_c n i A c w' ws (hC.ex hx) hw (by omega) (by omega))
  obtain ⟨i0, hi, hz0, hz1, hz2⟩ := info_parts info3
  have HMl := Lib.hid (fun k => mems_le k ws)
  have HMs := Lib.hid (fun k => mems_succ k ws)
  clear hv hlen hC hw
  generalize ws.length = m at *
  go_enter Tryd.func23, Tryd.ntmps23
  go_wp2
  go_loopw [3, 4] (fun v i wr => ∃ k : Nat, i = .int .i64 k ∧ k ≤ n ∧ wr.ownsRow (w.heap.size + 1) 3 1 v (natsV (mems k ws)).length (natsV (mems k ws)) ∧ Ex (w.alloc (.cells #[.int .i64 n, .slice A m c] 24)) wr)
    (fun _ i _ => n - (intOf i).toNat)
  case atStart => exact ⟨0, rfl, by omega, by simpa [mems, natsV] using World.ownsRow_nil _ _ _ _, Ex.refl _⟩
  case round =>
    obtain ⟨k, rfl, hk, hown, z, rfl⟩ := hrel
    by_cases hlt : k < n
    · have hle := HMl.out k
      rw [← natsV_length] at hle
      cases hbit : bitAt ws k
      · have HBit := Lib.hid hbit
        have HK := Lib.hid (HB.out _ (((Ex.refl _).alloc _).ext z) k hlt)
        rw [hbit] at HK; clear hbit
        have HO := Lib.hid hown; clear hown
        go_wp2_with fail
        refine HK.out.mono ?_
        rintro e w' ⟨rfl, y, rfl⟩
        go_wp2
        go_roundw
        case rel =>
          refine ⟨k + 1, by go_num, by omega, ?_, ext_ext _ _ _⟩
          rw [HMs.out, HBit.out]
          simpa using own_ex HO.out ⟨y, rfl⟩
        case measure => simp [intOf]; omega
      · have HBit := Lib.hid hbit
        have HK := Lib.hid (HB.out _ (((Ex.refl _).alloc _).ext z) k hlt)
        rw [hbit] at HK; clear hbit
        have HO := Lib.hid hown; clear hown
        go_wp2_with fail
        refine HK.out.mono ?_
        rintro e w' ⟨rfl, hx⟩
        have hO2 := own_ex HO.out hx
        obtain ⟨y, rfl⟩ := Ex.trans ⟨z, rfl⟩ hx
        have HO2 := Lib.hid hO2
        clear hx hO2
        go_wp2_with (at_builtin; refine wpList_append_own _ rfl _ _ 25 rfl (w.heap.size + 1) 3 i0 (.int .i64 0) 1 8 Tryd.underlying25 hi hz0 hz1 hz2 rfl (by decide) _ _ _ rfl (HO2.out.alloc _) ⟨(ext (w.alloc (.cells #[.int .i64 n, .slice A m c] 24)) y).heap.size, 0, none⟩ 1 1 [.int .i64 k] rfl rfl ?c1 ?c2 ?c3 ?c4 ?c5 ?_)
        case c1 => exact cell_one_new _ _ _
        case c2 => intro u hu; simp at hu; subst hu; rfl
        case c3 => unfold maxLen; omega
        case c4 => omega
        case c5 => have := (ext_below (w.alloc (.cells #[.int .i64 n, .slice A m c] 24)) y).size; simp at this ⊢; omega
        · intro v' w2 hown2 hg _
          have hE2 : Ex (w.alloc (.cells #[.int .i64 n, .slice A m c] 24)) w2 := ex_own (Ex.alloc ⟨y, rfl⟩ _) (HO2.out.alloc _) (by simp) hg
          have HO3 := Lib.hid hown2
          clear hown2 hg
          obtain ⟨x, rfl⟩ := hE2
          go_wp2
          go_roundw
          case rel =>
            refine ⟨k + 1, by go_num, by omega, ?_, ⟨x, rfl⟩⟩
            rw [HMs.out, HBit.out, natsV_append]
            simpa [natsV] using HO3.out
          case measure => simp [intOf]; omega
    · obtain rfl : k = n := by omega
      have HO := Lib.hid hown; clear hown
      go_wp2
      go_ret
      exact ⟨_, rfl, own_base HO.out (by omega), ((Ex.refl _).alloc _).ext _⟩
end Go.Proofs.YtfinldppcdkeoaaDoor
