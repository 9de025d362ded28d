/-
  Join.
  Conditions: few and short words; the world's tables are as laid (Env).
-/
import Derived.Test.YtlkebnobcfffeaaDoorPw
import Derived.Lib.Join
namespace Go.Proofs.YtlkebnobcfffeaaDoor
open Go.RowKit
def joinT (l : List Gw) : List UInt8 := Lib.join ((l.map (·.text)).map (·.data.toList)) [32]
def gkey (x : Gw) : Nat × List UInt8 := (x.kind.toNat, x.text.data.toList)
theorem lens_le (n : Nat) : ∀ l : List Gw, (∀ x ∈ l, x.text.size ≤ n) → Lib.lens ((l.map (·.text)).map (·.data.toList)) ≤ n * l.length
  | [], _ => by simp [Lib.lens]
  | x :: l, h => by
    have := lens_le n l (fun y hy => h y (List.mem_cons_of_mem _ hy))
    have hx := h x (List.mem_cons_self ..)
    rw [size_data] at hx
    simp only [Lib.lens, List.map_cons, List.sum_cons, List.length_cons] at *
    rw [Nat.mul_succ]
    omega
theorem joinT_len (n : Nat) (l : List Gw) (h : ∀ x ∈ l, x.text.size ≤ n) : (joinT l).length ≤ (n + 1) * l.length := by
  cases l with
  | nil => simp [joinT, Lib.join_nil]
  | cons x l =>
    unfold joinT
    rw [List.map_cons, List.map_cons, Lib.join_cons, List.length_append, Lib.joinTail_length]
    have h1 := h x (List.mem_cons_self ..)
    rw [size_data] at h1
    have h2 := lens_le n l (fun y hy => h y (List.mem_cons_of_mem _ hy))
    simp only [List.length_map, List.length_cons, List.length_nil]
    have e : (n + 1) * (l.length + 1) = n * l.length + l.length + n + 1 := by rw [Nat.mul_succ, Nat.add_mul]; omega
    rw [e]
    omega
theorem tail_rd : ∀ l : List Gw, (∀ x ∈ l, rightB x = true) → Rd (l.map gkey) (Lib.joinTail [32] ((l.map (·.text)).map (·.data.toList))) ∧ Sep (Lib.joinTail [32] ((l.map (·.text)).map (·.data.toList)))
  | [], _ => ⟨Rd.fin [] rfl, .inl rfl⟩
  | x :: l, h => by
    obtain ⟨h1, h2⟩ := tail_rd l (fun y hy => h y (List.mem_cons_of_mem _ hy))
    obtain ⟨k, hk, hr⟩ := (rightB_iff x).1 (h x (List.mem_cons_self ..))
    have e : Lib.joinTail [32] (((x :: l).map (·.text)).map (·.data.toList)) = [32] ++ (x.text.data.toList ++ Lib.joinTail [32] ((l.map (·.text)).map (·.data.toList))) := by
      simp [Lib.joinTail]
    rw [e]
    refine ⟨?_, .inr ⟨32, _, rfl, rfl⟩⟩
    have hk2 : gkey x = (k, x.text.data.toList) := by unfold gkey; rw [hk]; rfl
    rw [List.map_cons, hk2]
    exact Rd.next [32] k _ _ _ rfl hr h2 h1
theorem join_rd (l : List Gw) (h : ∀ x ∈ l, rightB x = true) : Rd (l.map gkey) (joinT l) := by
  cases l with
  | nil => exact Rd.fin [] rfl
  | cons x l =>
    obtain ⟨h1, h2⟩ := tail_rd l (fun y hy => h y (List.mem_cons_of_mem _ hy))
    obtain ⟨k, hk, hr⟩ := (rightB_iff x).1 (h x (List.mem_cons_self ..))
    have hk2 : gkey x = (k, x.text.data.toList) := by unfold gkey; rw [hk]; rfl
    show Rd (gkey x :: l.map gkey) _
    rw [hk2]
    unfold joinT
    rw [List.map_cons, List.map_cons, Lib.join_cons]
    exact Rd.next [] k _ _ _ rfl hr h2 h1
def JoinR (w : World) (l : List Gw) (e : Ending) (w' : World) : Prop :=
  (l.all rightB = true → e = .returned (.tuple #[.string ⟨(joinT l).toArray⟩, .int .i64 0])) ∧ (l.all rightB = false → e = .returned (.tuple #[.string ⟨#[]⟩, .int .i64 3])) ∧ Ex w w'
theorem join_nil (A : Option Addr) (c : Nat) (w : World) : Calls Tryd.prog 24 #[.slice A 0 c] w (JoinR w []) := by
  have HJ := Lib.hid (fun a c w => Tryd.strings_Join_none a c ⟨#[32]⟩ w)
  go_enter Tryd.func24, Tryd.ntmps24
  go_wp2_with fail
  go_loopw [5, 40] (fun v i wr => v = .slice none 0 0 ∧ i = .int .i64 0 ∧ Ex w wr) (fun _ i _ => 0)
  case atStart => exact ⟨rfl, rfl, Ex.refl _⟩
  case round =>
    obtain ⟨rfl, rfl, hx⟩ := hrel
    go_wp2_with fail
    refine (HJ.out _ _ _).mono ?_
    rintro e w' ⟨rfl, rfl⟩
    go_wp2_with fail
    go_ret2
    exact ⟨fun _ => rfl, (fun h => by cases h), hx⟩
theorem info9 : ∃ i0, Tryd.prog.info? 9 = some i0 ∧ i0.zero = some (.string ⟨#[]⟩) ∧ i0.size = 1 ∧ i0.bytes = 16 := by
  have h : (Tryd.prog.info? 9).map (fun i => (i.zero, i.size, i.bytes)) = some (some (.string ⟨#[]⟩), 1, 16) := by kernel_rfl
  cases hi : Tryd.prog.info? 9 with
  | none => rw [hi] at h; cases h
  | some i0 =>
    rw [hi] at h
    simp only [Option.map_some, Option.some.injEq, Prod.mk.injEq] at h
    exact ⟨i0, rfl, h.1, h.2.1, h.2.2⟩
def strsT (l : List Gw) : List Value := l.map (fun x => Value.string x.text)
theorem strsT_take (l : List Gw) (k : Nat) (y : Gw) (h : l[k]? = some y) : strsT (l.take (k + 1)) = strsT (l.take k) ++ [.string y.text] := by
  unfold strsT
  rw [List.take_add_one, h]
  simp
set_option maxRecDepth 20000 in
set_option maxHeartbeats 4000000 in
theorem join_core (b o c n : Nat) (l l' : List Gw) (w : World) (hE : Env w) (hR : Row w b o (gwsV l)) (hl : l.length = n + 1) (hn : n ≤ 200) (hcp : n + 1 ≤ c) (ht : ∀ x ∈ l, x.text.size ≤ 20) (x : Gw) (hx : l[n]? = some x)
    (hc : (x.kind = 4 ∧ x.text.size = 0 ∧ l' = l.take n) ∨ (¬ (x.kind = 4 ∧ x.text.size = 0) ∧ l' = l)) :
    Calls Tryd.prog 24 #[.slice (some ⟨b, o, none⟩) (n + 1) c] w (JoinR w l') := by
  have H1 := Lib.hid (fun w' (hx : Ex w w') => hR.ex hx)
  have hsub : ∀ (k : Nat) (y : Gw), l'[k]? = some y → l[k]? = some y := by
    rcases hc with ⟨_, _, rfl⟩ | ⟨_, rfl⟩
    · intro k y h
      rw [List.getElem?_take] at h
      split at h
      · exact h
      · cases h
    · exact fun k y h => h
  have HSub := Lib.hid hsub
  have HRt := Lib.hid (fun (k : Nat) (y : Gw) (hy : l'[k]? = some y) w' (hX : Ex w w') => right_c y w' (hE.ex hX) (by have := ht y (List.mem_of_getElem? (hsub k y hy)); omega))
  have htx : ∀ y ∈ l', y.text.size ≤ 20 := fun y hy => by
    obtain ⟨k, hk⟩ := List.mem_iff_getElem?.1 hy
    exact ht y (List.mem_of_getElem? (hsub k y hk))
  obtain ⟨n', hn'⟩ : ∃ n', l'.length = n' := ⟨_, rfl⟩
  have hn2 : (n' = n ∧ x.kind = 4 ∧ x.text.size = 0) ∨ (n' = n + 1 ∧ ¬ (x.kind = 4 ∧ x.text.size = 0)) := by
    rcases hc with ⟨h1, h2, rfl⟩ | ⟨h, rfl⟩
    · exact .inl ⟨by rw [← hn', List.length_take]; omega, h1, h2⟩
    · exact .inr ⟨by omega, h⟩
  have HG : Hid (∀ k, k < n' → ∃ y, l'[k]? = some y) := fun k hk => ⟨_, List.getElem?_eq_getElem (by omega)⟩
  have hlen : (joinT l').length ≤ 4300 := by
    have h1 := joinT_len 20 l' htx
    have h2 : (20 + 1) * l'.length ≤ 21 * 201 := Nat.mul_le_mul (Nat.le_refl _) (by rcases hn2 with h | h <;> omega)
    omega
  have HLen : Hid ((joinT l').length ≤ 4300) := hlen
  have HIx : Hid (∀ (k : Nat) (y : Gw), l'[k]? = some y → k < n') := fun k y h => by rw [← hn']; exact (List.getElem?_eq_some_iff.1 h).1
  have HAll : Hid ((∀ (k : Nat) (y : Gw), k < n' → l'[k]? = some y → rightB y = true) → l'.all rightB = true) := fun h => by
    rw [List.all_eq_true]
    intro y hy
    obtain ⟨k, hk⟩ := List.mem_iff_getElem?.1 hy
    exact h k y (by rw [← hn']; exact (List.getElem?_eq_some_iff.1 hk).1) hk
  have HBad : Hid (∀ (k : Nat) (y : Gw), l'[k]? = some y → rightB y = false → l'.all rightB = false) := fun k y h hb => by
    cases ha : l'.all rightB with
    | false => rfl
    | true => rw [List.all_eq_true] at ha; rw [ha y (List.mem_of_getElem? h)] at hb; cases hb
  have HTk := Lib.hid (strsT_take l')
  have HTk0 : Hid (l'.take n' = l') := by show _ = _; rw [← hn', List.take_length]
  have HL : Hid (l'.length = n') := hn'
  have HJ0 := Lib.hid (fun a c w => Tryd.strings_Join_none a c ⟨#[32]⟩ w)
  have HJ := Lib.hid (fun (g c : Nat) (w : World) (hcells : ∀ (j : Nat) x, (l'.map (·.text))[j]? = some x → w.cell? ⟨g, 0 + j, none⟩ = some (.string x)) (hb : g < w.heap.size) (hcap : (l'.map (·.text)).length ≤ c) => Tryd.strings_Join g 0 c (l'.map (·.text)) ⟨#[32]⟩ w hcells hb (by rw [List.length_map]; rcases hn2 with h | h <;> omega) hcap (by show (joinT l').length ≤ _; omega))
  rw [List.length_map, hn'] at HJ
  have H0 : Hid (n' = 0 → joinT l' = []) := fun h => by
    rw [← hn', List.length_eq_zero_iff] at h
    rw [h]; rfl
  obtain ⟨a0, a1, -, -⟩ := hR.word hx
  have lb := hR.1
  obtain ⟨q1, q2, hq1, hq2, hq⟩ : ∃ q1 q2 : Bool, (x.kind == 4) = q1 ∧ x.text.toList.isEmpty = q2 ∧ (((q1 && q2) = true ∧ n' = n) ∨ ((q1 && q2) = false ∧ n' = n + 1)) := by
    refine ⟨_, _, rfl, rfl, ?_⟩
    rw [nonempty_iff]
    rcases hn2 with ⟨h1, h2, h3⟩ | ⟨h1, h2⟩
    · exact .inl ⟨by simp [h2, h3], h1⟩
    · refine .inr ⟨?_, h1⟩
      cases hh : ((x.kind == 4) && decide (x.text.size = 0)) with
      | false => rfl
      | true => simp only [Bool.and_eq_true, beq_iff_eq, decide_eq_true_eq] at hh; exact absurd hh h2
  obtain ⟨kd, T, pa, pb⟩ := x
  dsimp only at a0 a1 hq1 hq2
  clear hE hR hsub htx hn2 hlen hc ht hx hl hn'
  cases q1 <;> cases q2
  all_goals
    simp at hq
    have HQ := Lib.hid hq
    have c1 : n ≤ c := by omega
    have hn9 : n' ≤ 201 := by omega
    have m1 : decide ((1000 : Int) < (n' : Int)) = false := decide_eq_false (by omega)
    clear hq
    go_enter Tryd.func24, Tryd.ntmps24
    go_upto_if 30 with (fail)
    go_cut [0] (fun s0 wx => s0 = .slice (some ⟨b, o, none⟩) n' c ∧ Hid (Ex w wx))
    case first =>
      go_wp2_with fail
      go_meet
      exact ⟨by rw [HQ.out], Lib.hid (Ex.refl _)⟩
    case rest =>
      obtain ⟨rfl, HXc⟩ := hcut
      clear a0 a1 hq1 hq2 lb hn c1 hcp
      go_wp2_with fail
      go_loopw [5, 40] (fun v a wr => ∃ k : Nat, a = .int .i64 k ∧ k ≤ n' ∧ Hid (wr.ownsRow w.heap.size 9 1 v k (strsT (l'.take k)) ∧ (∀ (j : Nat) (y : Gw), j < k → l'[j]? = some y → rightB y = true) ∧ Ex w wr)) (fun _ a _ => n' - (intOf a).toNat)
      case atStart => exact ⟨0, rfl, by omega, Lib.hid ⟨World.ownsRow_nil _ _ _ _, (fun j y h => absurd h (by omega)), HXc.out⟩⟩
      case round =>
        obtain ⟨k, rfl, hk, HH⟩ := hrel
        obtain ⟨hown, hpr, hx⟩ := HH.out
        by_cases hlt : k < n'
        · have n1 : (k : Int) < (n' : Int) := by omega
          have n0 : (0 : Int) ≤ (k : Int) := by omega
          obtain ⟨y, hyk⟩ := HG.out k hlt
          obtain ⟨a0, a1, a2, a3⟩ := (H1.out _ hx).word (HSub.out k y hyk)
          have lg := (H1.out _ hx).1
          have HRy := Lib.hid (HRt.out k y hyk)
          have Hy := Lib.hid hyk
          have HTn := Lib.hid (HTk.out k y hyk)
          clear hyk
          obtain ⟨kd, T, pa, pb⟩ := y
          unfold gwV at HRy
          dsimp only at a0 a1 a2 a3 HRy HTn
          have HX := Lib.hid hx
          have HOwn := Lib.hid hown
          have HPr := Lib.hid hpr
          obtain ⟨q, hq⟩ : ∃ q, rightB ⟨kd, T, pa, pb⟩ = q := ⟨_, rfl⟩
          rw [hq] at HRy
          have Hq := Lib.hid hq
          clear hq hx hown hpr
          cases q
          · go_wp2_with fail
            refine (HRy.out _ (HX.out.alloc _)).mono ?_
            rintro e w' ⟨rfl, z, rfl⟩
            go_wp2_with fail
            go_ret2
            exact ⟨(fun h => by rw [HBad.out k _ Hy.out Hq.out] at h; cases h), (fun _ => rfl), (HX.out.alloc _).ext z⟩
          · have HI := Lib.hid info9
            go_upto_region 12 with (go_at_call 40; refine (HRy.out _ (HX.out.alloc _)).mono ?_; rintro e w' ⟨rfl, z, rfl⟩)
            obtain ⟨i0, hi, hz0, hz1, hz2⟩ := HI.out
            go_wp2_with (at_builtin; refine wpList_append_own _ rfl _ _ 38 rfl w.heap.size 9 i0 _ 1 16 Tryd.underlying38 hi hz0 hz1 hz2 rfl (by decide) _ _ _ rfl ((own_ex HOwn.out (((Ex.refl _).alloc _).ext z)).alloc _) ⟨(ext (wr.alloc (.cells #[.int .i64 kd, .string T, .int .i64 pa, .int .i64 pb] 36)) z).heap.size, 0, none⟩ 1 1 [.string T] rfl rfl ?c1 ?c2 ?c3 ?c4 ?c5 ?_)
            case c1 => exact cells_at (Blk.new _ 9 _)
            case c2 => intro u hu; simp at hu; rcases hu with rfl; rfl
            case c3 => unfold maxLen; omega
            case c4 => omega
            case c5 => rw [World.size_alloc]; have := (((HX.out.alloc (.cells #[.int .i64 kd, .string T, .int .i64 pa, .int .i64 pb] 36)).ext z).below.size); omega
            · intro v' w2 hown2 hg _
              have hX2 : Ex w w2 := (((HX.out.alloc _).ext z).alloc _).grown hg (fun k hk => (HOwn.out.lt k hk).1)
              have HREL : Hid (w2.ownsRow w.heap.size 9 1 v' (k + 1) (strsT (l'.take (k + 1))) ∧ (∀ (j : Nat) (y : Gw), j < k + 1 → l'[j]? = some y → rightB y = true) ∧ Ex w w2) := by
                refine ⟨by rw [HTn.out]; exact hown2, fun j y hj hjy => ?_, hX2⟩
                by_cases hjk : j = k
                · subst hjk
                  rw [Hy.out] at hjy
                  injection hjy with hjy
                  rw [← hjy]; exact Hq.out
                · exact HPr.out j y (by omega) hjy
              clear hX2 hown2 hg
              go_wp2_with fail
              refine ⟨⟨k + 1, by go_num, by omega, HREL⟩, by simp [intOf]; omega⟩
        · have hkn : k = n' := by omega
          subst hkn
          have n1 : decide ((k : Int) < (k : Int)) = false := decide_eq_false (by omega)
          have HAllT : Hid (l'.all rightB = true) := HAll.out (fun j y hj hjy => hpr j y hj hjy)
          rw [HTk0.out] at hown
          have hJs : (joinT l').length ≤ 4300 := HLen.out
          obtain ⟨JB, hJB⟩ : ∃ JB : ByteArray, JB = ⟨(joinT l').toArray⟩ := ⟨_, rfl⟩
          have hJBs : JB.size ≤ 4300 := by rw [hJB, size_data]; exact hJs
          have j1 : decide ((16384 : Int) < (JB.size : Int)) = false := decide_eq_false (by omega)
          have HJB := Lib.hid hJB
          have HX := Lib.hid hx
          by_cases hk0 : k = 0
          · have hj0 := H0.out hk0
            rw [hj0] at hJB
            have hJB0 : JB = ⟨#[]⟩ := hJB
            subst hk0
            obtain ⟨-, A, cc, rfl⟩ := own_len hown
            clear hx hown hpr hlt hJs hJB hj0 hJBs j1
            go_wp2_with fail
            refine (HJ0.out _ _ _).mono ?_
            rintro e w' ⟨rfl, rfl⟩
            go_wp2_with fail
            go_ret2
            exact ⟨(fun _ => by rw [← HJB.out, hJB0]; rfl), (fun h => by rw [HAllT.out] at h; cases h), HX.out⟩
          · obtain ⟨g, cc, rfl, hg, hcc, hcells⟩ : ∃ g cc, u5 = .slice (some ⟨g, 0, none⟩) k cc ∧ g < wr.heap.size ∧ k ≤ cc ∧ ∀ (j : Nat) u, (strsT l')[j]? = some u → wr.cell? ⟨g, j, none⟩ = some u := by
              obtain ⟨g, cc, rfl, hg, -⟩ := own_some hown (by omega)
              refine ⟨g, cc, rfl, hg, ?_, fun j u hj => own_cell hown j u hj⟩
              rcases hown.2 with ⟨h, -⟩ | ⟨g', cap, cur, h, -, -, hle, -⟩
              · cases h
              · injection h with h1 h2 h3
                subst h3
                exact hle
            have HW := Lib.hid (HJ.out g cc wr (fun j x hj => by
              rw [Nat.zero_add]
              refine hcells j _ ?_
              unfold strsT
              rw [List.getElem?_map] at hj ⊢
              cases hl : l'[j]? with
              | none => rw [hl] at hj; cases hj
              | some y => rw [hl] at hj; injection hj with hj; rw [← hj]; rfl) hg hcc)
            have HJT : Hid ((⟨(Lib.join ((l'.map (·.text)).map (·.data.toList)) [32]).toArray⟩ : ByteArray) = JB) := by
              show _ = _
              rw [hJB]; rfl
            rw [HJT.out] at HW
            clear hx hown hpr hlt hJs hJB hJBs hcells hg hcc HJ
            go_wp2_with fail
            refine HW.out.mono ?_
            rintro e w' ⟨rfl, hb'⟩
            go_wp2_with fail
            go_ret2
            exact ⟨(fun _ => by rw [← HJB.out]; rfl), (fun h => by rw [HAllT.out] at h; cases h), HX.out.trans (Ex.of hb')⟩
end Go.Proofs.YtlkebnobcfffeaaDoor
