/-
  The program's Procs: the function that it hands on, which collects processes in a captured slice. The program's formed, with the test that collects processes, walked. The reference's mark and Procs, walked. Sort and Compact at integers; the processes of a tree, plain; the program's and the reference's Procs, walked. The reference's Procs, walked.
  Conditions: as each theorem says.
-/
import Derived.Test.YthjalkonlcjhnaaGreatDoorTl
import Derived.Test.YthjalkonlcjhnaaGreatDoorShelf
import Derived.Lib.OwnBridge
import Derived.Lib.QuietBelow
import Derived.Laws.EntriesVeiled
namespace Go.Proofs.YthjalkonlcjhnaaGreatDoor
open Go.RowKit
theorem infoInt : (Tryz.prog.info? 3).map (fun i => (i.zero, i.size, i.bytes)) = some (some (.int .i64 0), 1, 8) := by kernel_rfl
def ints (l : List Int) : List Value := l.map (Value.int .i64)
theorem ints_app (l m : List Int) : ints (l ++ m) = ints l ++ ints m := by simp [ints]
theorem ints_len (l : List Int) : (ints l).length = l.length := by simp [ints]
/-- whole blocks of other types than int, but go, are kept -/
structure Kp (go : Nat) (w w' : World) : Prop where
  size : w.heap.size ≤ w'.heap.size
  blk : ∀ b t cs, Blk w b t cs → t ≠ 3 → b ≠ go → Blk w' b t cs
theorem Kp.refl (go : Nat) (w : World) : Kp go w w := ⟨Nat.le_refl _, fun _ _ _ h _ _ => h⟩
theorem Kp.trans {go : Nat} {a b c : World} (h : Kp go a b) (k : Kp go b c) : Kp go a c := ⟨Nat.le_trans h.size k.size, fun i t cs hB ht hg => k.blk i t cs (h.blk i t cs hB ht hg) ht hg⟩
theorem Kp.of {go : Nat} {a b : World} (h : Ex a b) : Kp go a b := ⟨h.below.size, fun _ _ _ hB _ _ => hB.ex h⟩
theorem Kp.ex {go : Nat} {a b c : World} (h : Kp go a b) (k : Ex b c) : Kp go a c := h.trans (Kp.of k)
/-- the captured variables: go holds the slice of the numbers so far, gp the test of a number -/
structure PS (W : World) (ba go gp : Nat) (acc : List Int) (w : World) : Prop where
  ex : Ex W w
  lo : W.heap.size ≤ go
  hi : go < ba
  ne : gp ≠ go
  bs : ba ≤ w.heap.size
  proc : Blk w gp 47 [.func (.func 29) #[] #[]]
  out : ∃ v, Blk w go 29 [v] ∧ w.ownsRow ba 3 1 v (ints acc).length (ints acc)
theorem PS.exk {W : World} {ba go gp : Nat} {acc : List Int} {w w' : World} (h : PS W ba go gp acc w) (k : Ex w w') : PS W ba go gp acc w' := by
  obtain ⟨v, hB, ho⟩ := h.out
  exact ⟨h.ex.trans k, h.lo, h.hi, h.ne, Nat.le_trans h.bs k.below.size, h.proc.ex k, v, hB.ex k, own_ex ho k⟩
/-- numbers appended, and the slice stored again -/
theorem PS.push {W : World} {ba go gp : Nat} {acc l : List Int} {w w1 w2 : World} {v v' : Value} (h : PS W ba go gp acc w) (hv : w.ownsRow ba 3 1 v (ints acc).length (ints acc)) (hgo : Blk w go 29 [v]) (h1 : Ex w w1) (hg : w1.grownBy w2 v.ownBlock)
    (ho : w2.ownsRow ba 3 1 v' ((ints acc).length + l.length) (ints acc ++ ints l)) : PS W ba go gp (acc ++ l) (w2.setCell ⟨go, 0, none⟩ v') ∧ Kp go w1 (w2.setCell ⟨go, 0, none⟩ v') ∧ Blk w2 go 29 [v] := by
  have hv1 := own_ex hv h1
  have hb := fun k hk => (hv1.lt k hk).1
  have hE : Ex W w2 := (h.ex.trans h1).grown hg (fun k hk => by have h3 := hb k hk; have h4 := h.lo; have h5 := h.hi; omega)
  have hK1 : ∀ b t cs, Blk w1 b t cs → t ≠ 3 → Blk w2 b t cs := fun b t cs hB1 ht => by
    refine (hg.block b hB1.lt (fun e => ?_)).trans hB1
    rcases hv1.2 with ⟨e2, -⟩ | ⟨g, cap, cur, e2, -, hgg, -⟩
    · rw [e2] at e; cases e
    · rw [e2] at e
      injection e with e
      subst e
      unfold Blk at hB1
      rw [hB1] at hgg
      injection hgg with hgg
      injection hgg with _ ht'
      exact ht ht'
  have hK2 : ∀ b t cs, Blk w b t cs → t ≠ 3 → Blk w2 b t cs := fun b t cs hB ht => hK1 b t cs (hB.ex h1) ht
  have hsz : (w2.setCell ⟨go, 0, none⟩ v').heap.size = w2.heap.size := by simp [World.setCell]
  have hgo2 := hK2 _ _ _ hgo (by decide)
  refine ⟨⟨hE.setCell h.lo _, h.lo, h.hi, h.ne, by rw [hsz]; exact Nat.le_trans h.bs (Nat.le_trans h1.below.size hg.size), (hK2 _ _ _ h.proc (by decide)).far h.ne _, v', hgo2.set_ 0 v', ?_⟩, ⟨by rw [hsz]; exact hg.size, fun b t cs hB ht hbg => (hK1 b t cs hB ht).far hbg _⟩, hgo2⟩
  rw [ints_app, List.length_append, ints_len l]
  exact own_far ho h.hi _
theorem procs1_c (n : Int) (w : World) : Calls Tryz.prog 29 #[.int .i64 n] w (Ret w (.bool (procB n))) := by
  unfold procB
  by_cases h1 : 0 ≤ n
  · by_cases h2 : n < 8
    · rw [decide_eq_true h1, decide_eq_true h2]
      have z1 : decide (0 ≤ n) = true := decide_eq_true h1
      have z2 : decide (n < 8) = true := decide_eq_true h2
      go_enter Tryz.func29, Tryz.ntmps29
      go_wp2_with fail
      go_ret
      exact Ret.mk rfl (Ex.refl _)
    · rw [decide_eq_true h1, decide_eq_false h2]
      have z2 : decide (n < 8) = false := decide_eq_false h2
      go_enter Tryz.func29, Tryz.ntmps29
      go_wp2_with fail
      go_ret
      exact Ret.mk rfl (Ex.refl _)
  · rw [decide_eq_false h1]
    have z1 : decide (0 ≤ n) = false := decide_eq_false h1
    go_enter Tryz.func29, Tryz.ntmps29
    go_wp2_with fail
    go_ret
    exact Ret.mk rfl (Ex.refl _)
/-- what the collecting test leaves -/
def PRs (W : World) (ba go gp : Nat) (w : World) (acc : List Int) (b : Bool) (e : Ending) (w' : World) : Prop := e = .returned (.bool b) ∧ PS W ba go gp acc w' ∧ Kp go w w'
/-- the numbers that a node adds -/
def ownP (k p q : Int) : List Int := if k = 2 ∨ k = 3 then [p] else if k = 4 then [p, q] else []
theorem cells_new (w : World) (t : TypeId) (cs : List Value) : ∀ j u, cs[j]? = some u → (w.alloc (.cells cs.toArray t)).cell? ((⟨w.heap.size, 0, none⟩ : Addr).add j) = some u := cells_at (Blk.new w t cs)
set_option maxRecDepth 40000 in
set_option maxHeartbeats 3200000 in
theorem procs2_2 (n p q : Int) (s : ByteArray) (A : Option Addr) (m c : Nat) (W : World) (ba go gp : Nat) (acc : List Int) (w : World) (h : PS W ba go gp acc w) (hs : s.size ≤ maxLen) (hlen : acc.length ≤ 1000000) :
    Calls Tryz.prog 32 #[.agg #[.int .i64 2, .int .i64 n, .int .i64 p, .int .i64 q, .string s, .slice A m c], .pointer (some ⟨go, 0, none⟩), .pointer (some ⟨gp, 0, none⟩)] w (PRs W ba go gp w (acc ++ [p]) (nodeR 2 p q s)) := by
  unfold PRs
  rw [show nodeR 2 p q s = (procB p && decide (q = 0) && nmB s.data.toList) from rfl]
  obtain ⟨v, hBv, hov⟩ := h.out
  have HS := Lib.hid (And.intro h (And.intro hBv hov))
  obtain ⟨i0, hi, hz0, hz1, hz2⟩ := info_parts infoInt
  have HP := Lib.hid (fun p w => procs1_c p w)
  have HI := Lib.hid (fun w => isName_any s w hs)
  have q0 : w.cell? ⟨go, 0, none⟩ = some v := hBv.cell 0
  have q1 := hBv.lt
  have Hlen : Hid ((ints acc).length ≤ 1000000) := by rw [ints_len]; exact hlen
  have Hbs := Lib.hid h.bs
  have HBX := Lib.hid (Blk.new w 24 [.int .i64 2, .int .i64 n, .int .i64 p, .int .i64 q, .string s, .slice A m c])
  have HBN : Hid (w.heap.size ≠ go) := by unfold Hid; omega
  clear h hBv hov hs hlen
  go_enter Tryz.func32, Tryz.ntmps32
  go_wp2_with (at_builtin; refine wpList_append_own _ rfl _ _ 29 rfl ba 3 i0 (.int .i64 0) 1 8 Tryz.underlying29 hi hz0 hz1 hz2 rfl (by decide) _ _ _ rfl ((HS.out.2.2.alloc _).alloc _) ⟨w.heap.size + 1, 0, none⟩ 1 1 [.int .i64 p] rfl rfl ?c1 ?c2 ?c3 ?c4 ?c5 ?_)
  case c1 =>
    have h9 := cells_new (w.alloc (.cells #[.int .i64 2, .int .i64 n, .int .i64 p, .int .i64 q, .string s, .slice A m c] 24)) 3 [.int .i64 p]
    rw [show (w.alloc (.cells #[.int .i64 2, .int .i64 n, .int .i64 p, .int .i64 q, .string s, .slice A m c] 24)).heap.size = w.heap.size + 1 by simp] at h9
    exact h9
  case c2 => intro u hu; simp at hu; subst hu; rfl
  case c3 => have := Hlen.out; unfold maxLen; omega
  case c4 => have := Hlen.out; omega
  case c5 => have := Hbs.out; simp; omega
  intro v' w2 hown2 hg _
  obtain ⟨-, av, cv, rfl⟩ := own_len hown2
  obtain ⟨hps, hkp, hgo2⟩ := HS.out.1.push (l := [p]) HS.out.2.2 HS.out.2.1 (((Ex.refl _).alloc _).alloc _) hg hown2
  have hbx := hkp.blk _ _ _ ((HBX.out.alloc _)) (by decide) HBN.out
  have hkp0 := (Kp.of (go := go) (((Ex.refl w).alloc (.cells #[.int .i64 2, .int .i64 n, .int .i64 p, .int .i64 q, .string s, .slice A m c] 24)).alloc (.cells [.int .i64 p].toArray 3))).trans hkp
  have t0 : w2.cell? ⟨go, 0, none⟩ = some v := hgo2.cell 0
  have t1 : w2.frozen? ⟨go, 0, none⟩ = false := hgo2.frozen 0
  have t2 := hgo2.lt
  have HS0 := Lib.hid (And.intro hps (And.intro hkp0 hbx))
  obtain ⟨W3, hW3⟩ : ∃ W3, W3 = w2.setCell ⟨go, 0, none⟩ (.slice av ((ints acc).length + 1) cv) := ⟨_, rfl⟩
  rw [← hW3] at HS0
  have HW3 := Lib.hid hW3
  clear hW3 hown2 hg hps hkp hkp0 hgo2 hbx HS HBX
  go_upto_region 4 with fail
  rw [← HW3.out]
  have p0 : W3.cell? ⟨gp, 0, none⟩ = some (.func (.func 29) #[] #[]) := HS0.out.1.proc.cell 0
  have p1 := HS0.out.1.proc.lt
  have a2 : W3.cell? ⟨w.heap.size, 2, none⟩ = some (.int .i64 p) := HS0.out.2.2.cell 2
  have a3 : W3.cell? ⟨w.heap.size, 3, none⟩ = some (.int .i64 q) := HS0.out.2.2.cell 3
  have a4 : W3.cell? ⟨w.heap.size, 4, none⟩ = some (.string s) := HS0.out.2.2.cell 4
  have a5 := HS0.out.2.2.lt
  have HPp := Lib.hid (HP.out p)
  clear HP
  cases hp : procB p with
  | false =>
    rw [hp] at HPp
    have HpV := Lib.hid hp
    clear hp
    go_wp2_with fail
    refine (HPp.out _).mono ?_
    rintro e X1 ⟨rfl, hz⟩
    have HS1 := Lib.hid (And.intro (HS0.out.1.exk hz) (And.intro (HS0.out.2.1.ex hz) (HS0.out.2.2.ex hz)))
    clear hz p0 p1 a2 a3 a4 a5
    have p0 : X1.cell? ⟨gp, 0, none⟩ = some (.func (.func 29) #[] #[]) := HS1.out.1.proc.cell 0
    have p1 := HS1.out.1.proc.lt
    have a2 : X1.cell? ⟨w.heap.size, 2, none⟩ = some (.int .i64 p) := HS1.out.2.2.cell 2
    have a3 : X1.cell? ⟨w.heap.size, 3, none⟩ = some (.int .i64 q) := HS1.out.2.2.cell 3
    have a4 : X1.cell? ⟨w.heap.size, 4, none⟩ = some (.string s) := HS1.out.2.2.cell 4
    have a5 := HS1.out.2.2.lt
    go_wp2_with fail
    go_ret
    exact ⟨ret_eq (by have u0 := HpV.out; simp [*]), HS1.out.1, HS1.out.2.1⟩
  | true =>
    rw [hp] at HPp
    have HpV := Lib.hid hp
    clear hp
    by_cases hq : q = 0
    · have HqV := Lib.hid (decide_eq_true hq)
      subst hq
      cases hn : nmB s.data.toList with
      | false =>
        rw [hn] at HI
        have HnV := Lib.hid hn
        clear hn
        go_wp2_with fail
        refine (HPp.out _).mono ?_
        rintro e X1 ⟨rfl, hz⟩
        have HS1 := Lib.hid (And.intro (HS0.out.1.exk hz) (And.intro (HS0.out.2.1.ex hz) (HS0.out.2.2.ex hz)))
        clear hz p0 p1 a2 a3 a4 a5
        have p0 : X1.cell? ⟨gp, 0, none⟩ = some (.func (.func 29) #[] #[]) := HS1.out.1.proc.cell 0
        have p1 := HS1.out.1.proc.lt
        have a2 : X1.cell? ⟨w.heap.size, 2, none⟩ = some (.int .i64 p) := HS1.out.2.2.cell 2
        have a3 : X1.cell? ⟨w.heap.size, 3, none⟩ = some (.int .i64 0) := HS1.out.2.2.cell 3
        have a4 : X1.cell? ⟨w.heap.size, 4, none⟩ = some (.string s) := HS1.out.2.2.cell 4
        have a5 := HS1.out.2.2.lt
        go_wp2_with fail
        refine (HI.out _).mono ?_
        rintro e X2 ⟨rfl, hz⟩
        have HS2 := Lib.hid (And.intro (HS1.out.1.exk hz) (And.intro (HS1.out.2.1.ex hz) (HS1.out.2.2.ex hz)))
        clear hz p0 p1 a2 a3 a4 a5
        have p0 : X2.cell? ⟨gp, 0, none⟩ = some (.func (.func 29) #[] #[]) := HS2.out.1.proc.cell 0
        have p1 := HS2.out.1.proc.lt
        have a2 : X2.cell? ⟨w.heap.size, 2, none⟩ = some (.int .i64 p) := HS2.out.2.2.cell 2
        have a3 : X2.cell? ⟨w.heap.size, 3, none⟩ = some (.int .i64 0) := HS2.out.2.2.cell 3
        have a4 : X2.cell? ⟨w.heap.size, 4, none⟩ = some (.string s) := HS2.out.2.2.cell 4
        have a5 := HS2.out.2.2.lt
        go_wp2_with fail
        go_ret
        exact ⟨ret_eq (by have u0 := HpV.out; have u1 := HqV.out; have u2 := HnV.out; simp [*]), HS2.out.1, HS2.out.2.1⟩
      | true =>
        rw [hn] at HI
        have HnV := Lib.hid hn
        clear hn
        go_wp2_with fail
        refine (HPp.out _).mono ?_
        rintro e X1 ⟨rfl, hz⟩
        have HS1 := Lib.hid (And.intro (HS0.out.1.exk hz) (And.intro (HS0.out.2.1.ex hz) (HS0.out.2.2.ex hz)))
        clear hz p0 p1 a2 a3 a4 a5
        have p0 : X1.cell? ⟨gp, 0, none⟩ = some (.func (.func 29) #[] #[]) := HS1.out.1.proc.cell 0
        have p1 := HS1.out.1.proc.lt
        have a2 : X1.cell? ⟨w.heap.size, 2, none⟩ = some (.int .i64 p) := HS1.out.2.2.cell 2
        have a3 : X1.cell? ⟨w.heap.size, 3, none⟩ = some (.int .i64 0) := HS1.out.2.2.cell 3
        have a4 : X1.cell? ⟨w.heap.size, 4, none⟩ = some (.string s) := HS1.out.2.2.cell 4
        have a5 := HS1.out.2.2.lt
        go_wp2_with fail
        refine (HI.out _).mono ?_
        rintro e X2 ⟨rfl, hz⟩
        have HS2 := Lib.hid (And.intro (HS1.out.1.exk hz) (And.intro (HS1.out.2.1.ex hz) (HS1.out.2.2.ex hz)))
        clear hz p0 p1 a2 a3 a4 a5
        have p0 : X2.cell? ⟨gp, 0, none⟩ = some (.func (.func 29) #[] #[]) := HS2.out.1.proc.cell 0
        have p1 := HS2.out.1.proc.lt
        have a2 : X2.cell? ⟨w.heap.size, 2, none⟩ = some (.int .i64 p) := HS2.out.2.2.cell 2
        have a3 : X2.cell? ⟨w.heap.size, 3, none⟩ = some (.int .i64 0) := HS2.out.2.2.cell 3
        have a4 : X2.cell? ⟨w.heap.size, 4, none⟩ = some (.string s) := HS2.out.2.2.cell 4
        have a5 := HS2.out.2.2.lt
        go_wp2_with fail
        go_ret
        exact ⟨ret_eq (by have u0 := HpV.out; have u1 := HqV.out; have u2 := HnV.out; simp [*]), HS2.out.1, HS2.out.2.1⟩
    · have HqV := Lib.hid (decide_eq_false hq)
      have g1 : (q == 0) = false := beq_eq_false_iff_ne.2 hq
      have g1' : (q != 0) = true := by rw [bne_iff_ne]; exact hq
      clear hq
      go_wp2_with fail
      refine (HPp.out _).mono ?_
      rintro e X1 ⟨rfl, hz⟩
      have HS1 := Lib.hid (And.intro (HS0.out.1.exk hz) (And.intro (HS0.out.2.1.ex hz) (HS0.out.2.2.ex hz)))
      clear hz p0 p1 a2 a3 a4 a5
      have p0 : X1.cell? ⟨gp, 0, none⟩ = some (.func (.func 29) #[] #[]) := HS1.out.1.proc.cell 0
      have p1 := HS1.out.1.proc.lt
      have a2 : X1.cell? ⟨w.heap.size, 2, none⟩ = some (.int .i64 p) := HS1.out.2.2.cell 2
      have a3 : X1.cell? ⟨w.heap.size, 3, none⟩ = some (.int .i64 q) := HS1.out.2.2.cell 3
      have a4 : X1.cell? ⟨w.heap.size, 4, none⟩ = some (.string s) := HS1.out.2.2.cell 4
      have a5 := HS1.out.2.2.lt
      go_wp2_with fail
      go_ret
      exact ⟨ret_eq (by have u0 := HpV.out; have u1 := HqV.out; simp [*]), HS1.out.1, HS1.out.2.1⟩
set_option maxRecDepth 40000 in
set_option maxHeartbeats 3200000 in
theorem procs2_3 (n p q : Int) (s : ByteArray) (A : Option Addr) (m c : Nat) (W : World) (ba go gp : Nat) (acc : List Int) (w : World) (h : PS W ba go gp acc w) (hs : s.size ≤ maxLen) (hlen : acc.length ≤ 1000000) :
    Calls Tryz.prog 32 #[.agg #[.int .i64 3, .int .i64 n, .int .i64 p, .int .i64 q, .string s, .slice A m c], .pointer (some ⟨go, 0, none⟩), .pointer (some ⟨gp, 0, none⟩)] w (PRs W ba go gp w (acc ++ [p]) (nodeR 3 p q s)) := by
  unfold PRs
  rw [show nodeR 3 p q s = (procB p && decide (q = 0) && decide (s.size = 0)) from rfl]
  obtain ⟨v, hBv, hov⟩ := h.out
  have HS := Lib.hid (And.intro h (And.intro hBv hov))
  obtain ⟨i0, hi, hz0, hz1, hz2⟩ := info_parts infoInt
  have HP := Lib.hid (fun p w => procs1_c p w)
  have HI := Lib.hid (fun w => isName_any s w hs)
  have q0 : w.cell? ⟨go, 0, none⟩ = some v := hBv.cell 0
  have q1 := hBv.lt
  have Hlen : Hid ((ints acc).length ≤ 1000000) := by rw [ints_len]; exact hlen
  have Hbs := Lib.hid h.bs
  have HBX := Lib.hid (Blk.new w 24 [.int .i64 3, .int .i64 n, .int .i64 p, .int .i64 q, .string s, .slice A m c])
  have HBN : Hid (w.heap.size ≠ go) := by unfold Hid; omega
  clear h hBv hov hs hlen
  go_enter Tryz.func32, Tryz.ntmps32
  go_wp2_with (at_builtin; refine wpList_append_own _ rfl _ _ 29 rfl ba 3 i0 (.int .i64 0) 1 8 Tryz.underlying29 hi hz0 hz1 hz2 rfl (by decide) _ _ _ rfl ((HS.out.2.2.alloc _).alloc _) ⟨w.heap.size + 1, 0, none⟩ 1 1 [.int .i64 p] rfl rfl ?c1 ?c2 ?c3 ?c4 ?c5 ?_)
  case c1 =>
    have h9 := cells_new (w.alloc (.cells #[.int .i64 3, .int .i64 n, .int .i64 p, .int .i64 q, .string s, .slice A m c] 24)) 3 [.int .i64 p]
    rw [show (w.alloc (.cells #[.int .i64 3, .int .i64 n, .int .i64 p, .int .i64 q, .string s, .slice A m c] 24)).heap.size = w.heap.size + 1 by simp] at h9
    exact h9
  case c2 => intro u hu; simp at hu; subst hu; rfl
  case c3 => have := Hlen.out; unfold maxLen; omega
  case c4 => have := Hlen.out; omega
  case c5 => have := Hbs.out; simp; omega
  intro v' w2 hown2 hg _
  obtain ⟨-, av, cv, rfl⟩ := own_len hown2
  obtain ⟨hps, hkp, hgo2⟩ := HS.out.1.push (l := [p]) HS.out.2.2 HS.out.2.1 (((Ex.refl _).alloc _).alloc _) hg hown2
  have hbx := hkp.blk _ _ _ ((HBX.out.alloc _)) (by decide) HBN.out
  have hkp0 := (Kp.of (go := go) (((Ex.refl w).alloc (.cells #[.int .i64 3, .int .i64 n, .int .i64 p, .int .i64 q, .string s, .slice A m c] 24)).alloc (.cells [.int .i64 p].toArray 3))).trans hkp
  have t0 : w2.cell? ⟨go, 0, none⟩ = some v := hgo2.cell 0
  have t1 : w2.frozen? ⟨go, 0, none⟩ = false := hgo2.frozen 0
  have t2 := hgo2.lt
  have HS0 := Lib.hid (And.intro hps (And.intro hkp0 hbx))
  obtain ⟨W3, hW3⟩ : ∃ W3, W3 = w2.setCell ⟨go, 0, none⟩ (.slice av ((ints acc).length + 1) cv) := ⟨_, rfl⟩
  rw [← hW3] at HS0
  have HW3 := Lib.hid hW3
  clear hW3 hown2 hg hps hkp hkp0 hgo2 hbx HS HBX
  go_upto_region 7 with fail
  rw [← HW3.out]
  have p0 : W3.cell? ⟨gp, 0, none⟩ = some (.func (.func 29) #[] #[]) := HS0.out.1.proc.cell 0
  have p1 := HS0.out.1.proc.lt
  have a2 : W3.cell? ⟨w.heap.size, 2, none⟩ = some (.int .i64 p) := HS0.out.2.2.cell 2
  have a3 : W3.cell? ⟨w.heap.size, 3, none⟩ = some (.int .i64 q) := HS0.out.2.2.cell 3
  have a4 : W3.cell? ⟨w.heap.size, 4, none⟩ = some (.string s) := HS0.out.2.2.cell 4
  have a5 := HS0.out.2.2.lt
  have HPp := Lib.hid (HP.out p)
  clear HP HI
  cases hp : procB p with
  | false =>
    rw [hp] at HPp
    have HpV := Lib.hid hp
    clear hp
    go_wp2_with fail
    refine (HPp.out _).mono ?_
    rintro e X1 ⟨rfl, hz⟩
    have HS1 := Lib.hid (And.intro (HS0.out.1.exk hz) (And.intro (HS0.out.2.1.ex hz) (HS0.out.2.2.ex hz)))
    clear hz p0 p1 a2 a3 a4 a5
    have p0 : X1.cell? ⟨gp, 0, none⟩ = some (.func (.func 29) #[] #[]) := HS1.out.1.proc.cell 0
    have p1 := HS1.out.1.proc.lt
    have a2 : X1.cell? ⟨w.heap.size, 2, none⟩ = some (.int .i64 p) := HS1.out.2.2.cell 2
    have a3 : X1.cell? ⟨w.heap.size, 3, none⟩ = some (.int .i64 q) := HS1.out.2.2.cell 3
    have a4 : X1.cell? ⟨w.heap.size, 4, none⟩ = some (.string s) := HS1.out.2.2.cell 4
    have a5 := HS1.out.2.2.lt
    go_wp2_with fail
    go_ret
    exact ⟨ret_eq (by have u0 := HpV.out; simp [*]), HS1.out.1, HS1.out.2.1⟩
  | true =>
    rw [hp] at HPp
    have HpV := Lib.hid hp
    clear hp
    by_cases hq : q = 0
    · have HqV := Lib.hid (decide_eq_true hq)
      subst hq
      by_cases hz : s.size = 0
      · have HzV := Lib.hid (decide_eq_true hz)
        have HzW : Hid ((⟨#[]⟩ : ByteArray) = ByteArray.empty) := Lib.hid rfl
        have hs9 := empty_of hz
        subst hs9
        clear hz
        go_wp2_with fail
        refine (HPp.out _).mono ?_
        rintro e X1 ⟨rfl, hz⟩
        have HS1 := Lib.hid (And.intro (HS0.out.1.exk hz) (And.intro (HS0.out.2.1.ex hz) (HS0.out.2.2.ex hz)))
        clear hz p0 p1 a2 a3 a4 a5
        have p0 : X1.cell? ⟨gp, 0, none⟩ = some (.func (.func 29) #[] #[]) := HS1.out.1.proc.cell 0
        have p1 := HS1.out.1.proc.lt
        have a2 : X1.cell? ⟨w.heap.size, 2, none⟩ = some (.int .i64 p) := HS1.out.2.2.cell 2
        have a3 : X1.cell? ⟨w.heap.size, 3, none⟩ = some (.int .i64 0) := HS1.out.2.2.cell 3
        have a4 : X1.cell? ⟨w.heap.size, 4, none⟩ = some (.string ⟨#[]⟩) := HS1.out.2.2.cell 4
        have a5 := HS1.out.2.2.lt
        go_wp2_with fail
        go_ret
        exact ⟨ret_eq (by have u0 := HpV.out; have u1 := HqV.out; have u2 := HzW.out; simp [*]), HS1.out.1, HS1.out.2.1⟩
      · have HzV := Lib.hid (decide_eq_false hz)
        have HzW : Hid (¬ s = ByteArray.empty) := Lib.hid (fun e => hz (by rw [e]; rfl))
        have g4 : s.toList.isEmpty = false := by rw [nonempty_iff, decide_eq_false hz]
        have g5 : (s.toList == []) = false := by rw [beq_eq_false_iff_ne]; intro h9; rw [h9] at g4; simp at g4
        have g6 : (s.toList != []) = true := by unfold bne; rw [g5]; rfl
        clear hz
        go_wp2_with fail
        refine (HPp.out _).mono ?_
        rintro e X1 ⟨rfl, hz⟩
        have HS1 := Lib.hid (And.intro (HS0.out.1.exk hz) (And.intro (HS0.out.2.1.ex hz) (HS0.out.2.2.ex hz)))
        clear hz p0 p1 a2 a3 a4 a5
        have p0 : X1.cell? ⟨gp, 0, none⟩ = some (.func (.func 29) #[] #[]) := HS1.out.1.proc.cell 0
        have p1 := HS1.out.1.proc.lt
        have a2 : X1.cell? ⟨w.heap.size, 2, none⟩ = some (.int .i64 p) := HS1.out.2.2.cell 2
        have a3 : X1.cell? ⟨w.heap.size, 3, none⟩ = some (.int .i64 0) := HS1.out.2.2.cell 3
        have a4 : X1.cell? ⟨w.heap.size, 4, none⟩ = some (.string s) := HS1.out.2.2.cell 4
        have a5 := HS1.out.2.2.lt
        go_wp2_with fail
        go_ret
        exact ⟨ret_eq (by have u0 := HpV.out; have u1 := HqV.out; have u2 := HzW.out; simp [*]), HS1.out.1, HS1.out.2.1⟩
    · have HqV := Lib.hid (decide_eq_false hq)
      have g1 : (q == 0) = false := beq_eq_false_iff_ne.2 hq
      have g1' : (q != 0) = true := by rw [bne_iff_ne]; exact hq
      clear hq
      go_wp2_with fail
      refine (HPp.out _).mono ?_
      rintro e X1 ⟨rfl, hz⟩
      have HS1 := Lib.hid (And.intro (HS0.out.1.exk hz) (And.intro (HS0.out.2.1.ex hz) (HS0.out.2.2.ex hz)))
      clear hz p0 p1 a2 a3 a4 a5
      have p0 : X1.cell? ⟨gp, 0, none⟩ = some (.func (.func 29) #[] #[]) := HS1.out.1.proc.cell 0
      have p1 := HS1.out.1.proc.lt
      have a2 : X1.cell? ⟨w.heap.size, 2, none⟩ = some (.int .i64 p) := HS1.out.2.2.cell 2
      have a3 : X1.cell? ⟨w.heap.size, 3, none⟩ = some (.int .i64 q) := HS1.out.2.2.cell 3
      have a4 : X1.cell? ⟨w.heap.size, 4, none⟩ = some (.string s) := HS1.out.2.2.cell 4
      have a5 := HS1.out.2.2.lt
      go_wp2_with fail
      go_ret
      exact ⟨ret_eq (by have u0 := HpV.out; have u1 := HqV.out; simp [*]), HS1.out.1, HS1.out.2.1⟩
set_option maxRecDepth 40000 in
set_option maxHeartbeats 3200000 in
theorem procs2_4 (n p q : Int) (s : ByteArray) (A : Option Addr) (m c : Nat) (W : World) (ba go gp : Nat) (acc : List Int) (w : World) (h : PS W ba go gp acc w) (hs : s.size ≤ maxLen) (hlen : acc.length ≤ 1000000) :
    Calls Tryz.prog 32 #[.agg #[.int .i64 4, .int .i64 n, .int .i64 p, .int .i64 q, .string s, .slice A m c], .pointer (some ⟨go, 0, none⟩), .pointer (some ⟨gp, 0, none⟩)] w (PRs W ba go gp w (acc ++ [p, q]) (nodeR 4 p q s)) := by
  unfold PRs
  rw [show nodeR 4 p q s = (procB p && procB q && !decide (p = q) && decide (s.size = 0)) from rfl]
  obtain ⟨v, hBv, hov⟩ := h.out
  have HS := Lib.hid (And.intro h (And.intro hBv hov))
  obtain ⟨i0, hi, hz0, hz1, hz2⟩ := info_parts infoInt
  have HP := Lib.hid (fun p w => procs1_c p w)
  have HI := Lib.hid (fun w => isName_any s w hs)
  have q0 : w.cell? ⟨go, 0, none⟩ = some v := hBv.cell 0
  have q1 := hBv.lt
  have Hlen : Hid ((ints acc).length ≤ 1000000) := by rw [ints_len]; exact hlen
  have Hbs := Lib.hid h.bs
  have HBX := Lib.hid (Blk.new w 24 [.int .i64 4, .int .i64 n, .int .i64 p, .int .i64 q, .string s, .slice A m c])
  have HBN : Hid (w.heap.size ≠ go) := by unfold Hid; omega
  clear h hBv hov hs hlen
  go_enter Tryz.func32, Tryz.ntmps32
  go_wp2_with (at_builtin; refine wpList_append_own _ rfl _ _ 29 rfl ba 3 i0 (.int .i64 0) 1 8 Tryz.underlying29 hi hz0 hz1 hz2 rfl (by decide) _ _ _ rfl ((HS.out.2.2.alloc _).alloc _) ⟨w.heap.size + 1, 0, none⟩ 2 2 [.int .i64 p, .int .i64 q] rfl rfl ?c1 ?c2 ?c3 ?c4 ?c5 ?_)
  case c1 =>
    have h9 := cells_new (w.alloc (.cells #[.int .i64 4, .int .i64 n, .int .i64 p, .int .i64 q, .string s, .slice A m c] 24)) 3 [.int .i64 p, .int .i64 q]
    rw [show (w.alloc (.cells #[.int .i64 4, .int .i64 n, .int .i64 p, .int .i64 q, .string s, .slice A m c] 24)).heap.size = w.heap.size + 1 by simp] at h9
    exact h9
  case c2 => intro u hu; simp at hu; rcases hu with rfl | rfl <;> rfl
  case c3 => have := Hlen.out; unfold maxLen; omega
  case c4 => have := Hlen.out; omega
  case c5 => have := Hbs.out; simp; omega
  intro v' w2 hown2 hg _
  obtain ⟨-, av, cv, rfl⟩ := own_len hown2
  obtain ⟨hps, hkp, hgo2⟩ := HS.out.1.push (l := [p, q]) HS.out.2.2 HS.out.2.1 (((Ex.refl _).alloc _).alloc _) hg hown2
  have hbx := hkp.blk _ _ _ ((HBX.out.alloc _)) (by decide) HBN.out
  have hkp0 := (Kp.of (go := go) (((Ex.refl w).alloc (.cells #[.int .i64 4, .int .i64 n, .int .i64 p, .int .i64 q, .string s, .slice A m c] 24)).alloc (.cells [.int .i64 p, .int .i64 q].toArray 3))).trans hkp
  have t0 : w2.cell? ⟨go, 0, none⟩ = some v := hgo2.cell 0
  have t1 : w2.frozen? ⟨go, 0, none⟩ = false := hgo2.frozen 0
  have t2 := hgo2.lt
  have HS0 := Lib.hid (And.intro hps (And.intro hkp0 hbx))
  obtain ⟨W3, hW3⟩ : ∃ W3, W3 = w2.setCell ⟨go, 0, none⟩ (.slice av ((ints acc).length + 2) cv) := ⟨_, rfl⟩
  rw [← hW3] at HS0
  have HW3 := Lib.hid hW3
  clear hW3 hown2 hg hps hkp hkp0 hgo2 hbx HS HBX
  go_upto_region 10 with fail
  rw [← HW3.out]
  have p0 : W3.cell? ⟨gp, 0, none⟩ = some (.func (.func 29) #[] #[]) := HS0.out.1.proc.cell 0
  have p1 := HS0.out.1.proc.lt
  have a2 : W3.cell? ⟨w.heap.size, 2, none⟩ = some (.int .i64 p) := HS0.out.2.2.cell 2
  have a3 : W3.cell? ⟨w.heap.size, 3, none⟩ = some (.int .i64 q) := HS0.out.2.2.cell 3
  have a4 : W3.cell? ⟨w.heap.size, 4, none⟩ = some (.string s) := HS0.out.2.2.cell 4
  have a5 := HS0.out.2.2.lt
  have HPp := Lib.hid (HP.out p)
  have HPq := Lib.hid (HP.out q)
  clear HP HI
  cases hp : procB p with
  | false =>
    rw [hp] at HPp
    have HpV := Lib.hid hp
    clear hp
    go_wp2_with fail
    refine (HPp.out _).mono ?_
    rintro e X1 ⟨rfl, hz⟩
    have HS1 := Lib.hid (And.intro (HS0.out.1.exk hz) (And.intro (HS0.out.2.1.ex hz) (HS0.out.2.2.ex hz)))
    clear hz p0 p1 a2 a3 a4 a5
    have p0 : X1.cell? ⟨gp, 0, none⟩ = some (.func (.func 29) #[] #[]) := HS1.out.1.proc.cell 0
    have p1 := HS1.out.1.proc.lt
    have a2 : X1.cell? ⟨w.heap.size, 2, none⟩ = some (.int .i64 p) := HS1.out.2.2.cell 2
    have a3 : X1.cell? ⟨w.heap.size, 3, none⟩ = some (.int .i64 q) := HS1.out.2.2.cell 3
    have a4 : X1.cell? ⟨w.heap.size, 4, none⟩ = some (.string s) := HS1.out.2.2.cell 4
    have a5 := HS1.out.2.2.lt
    go_wp2_with fail
    go_ret
    exact ⟨ret_eq (by have u0 := HpV.out; simp [*]), HS1.out.1, HS1.out.2.1⟩
  | true =>
    rw [hp] at HPp
    have HpV := Lib.hid hp
    clear hp
    cases hq : procB q with
    | false =>
      rw [hq] at HPq
      have HqV := Lib.hid hq
      clear hq
      go_wp2_with fail
      refine (HPp.out _).mono ?_
      rintro e X1 ⟨rfl, hz⟩
      have HS1 := Lib.hid (And.intro (HS0.out.1.exk hz) (And.intro (HS0.out.2.1.ex hz) (HS0.out.2.2.ex hz)))
      clear hz p0 p1 a2 a3 a4 a5
      have p0 : X1.cell? ⟨gp, 0, none⟩ = some (.func (.func 29) #[] #[]) := HS1.out.1.proc.cell 0
      have p1 := HS1.out.1.proc.lt
      have a2 : X1.cell? ⟨w.heap.size, 2, none⟩ = some (.int .i64 p) := HS1.out.2.2.cell 2
      have a3 : X1.cell? ⟨w.heap.size, 3, none⟩ = some (.int .i64 q) := HS1.out.2.2.cell 3
      have a4 : X1.cell? ⟨w.heap.size, 4, none⟩ = some (.string s) := HS1.out.2.2.cell 4
      have a5 := HS1.out.2.2.lt
      go_wp2_with fail
      refine (HPq.out _).mono ?_
      rintro e X2 ⟨rfl, hz⟩
      have HS2 := Lib.hid (And.intro (HS1.out.1.exk hz) (And.intro (HS1.out.2.1.ex hz) (HS1.out.2.2.ex hz)))
      clear hz p0 p1 a2 a3 a4 a5
      have p0 : X2.cell? ⟨gp, 0, none⟩ = some (.func (.func 29) #[] #[]) := HS2.out.1.proc.cell 0
      have p1 := HS2.out.1.proc.lt
      have a2 : X2.cell? ⟨w.heap.size, 2, none⟩ = some (.int .i64 p) := HS2.out.2.2.cell 2
      have a3 : X2.cell? ⟨w.heap.size, 3, none⟩ = some (.int .i64 q) := HS2.out.2.2.cell 3
      have a4 : X2.cell? ⟨w.heap.size, 4, none⟩ = some (.string s) := HS2.out.2.2.cell 4
      have a5 := HS2.out.2.2.lt
      go_wp2_with fail
      go_ret
      exact ⟨ret_eq (by have u0 := HpV.out; have u1 := HqV.out; simp [*]), HS2.out.1, HS2.out.2.1⟩
    | true =>
      rw [hq] at HPq
      have HqV := Lib.hid hq
      clear hq
      by_cases hpq : p = q
      · have HeV := Lib.hid (decide_eq_true hpq)
        subst hpq
        go_wp2_with fail
        refine (HPp.out _).mono ?_
        rintro e X1 ⟨rfl, hz⟩
        have HS1 := Lib.hid (And.intro (HS0.out.1.exk hz) (And.intro (HS0.out.2.1.ex hz) (HS0.out.2.2.ex hz)))
        clear hz p0 p1 a2 a3 a4 a5
        have p0 : X1.cell? ⟨gp, 0, none⟩ = some (.func (.func 29) #[] #[]) := HS1.out.1.proc.cell 0
        have p1 := HS1.out.1.proc.lt
        have a2 : X1.cell? ⟨w.heap.size, 2, none⟩ = some (.int .i64 p) := HS1.out.2.2.cell 2
        have a3 : X1.cell? ⟨w.heap.size, 3, none⟩ = some (.int .i64 p) := HS1.out.2.2.cell 3
        have a4 : X1.cell? ⟨w.heap.size, 4, none⟩ = some (.string s) := HS1.out.2.2.cell 4
        have a5 := HS1.out.2.2.lt
        go_wp2_with fail
        refine (HPp.out _).mono ?_
        rintro e X2 ⟨rfl, hz⟩
        have HS2 := Lib.hid (And.intro (HS1.out.1.exk hz) (And.intro (HS1.out.2.1.ex hz) (HS1.out.2.2.ex hz)))
        clear hz p0 p1 a2 a3 a4 a5
        have p0 : X2.cell? ⟨gp, 0, none⟩ = some (.func (.func 29) #[] #[]) := HS2.out.1.proc.cell 0
        have p1 := HS2.out.1.proc.lt
        have a2 : X2.cell? ⟨w.heap.size, 2, none⟩ = some (.int .i64 p) := HS2.out.2.2.cell 2
        have a3 : X2.cell? ⟨w.heap.size, 3, none⟩ = some (.int .i64 p) := HS2.out.2.2.cell 3
        have a4 : X2.cell? ⟨w.heap.size, 4, none⟩ = some (.string s) := HS2.out.2.2.cell 4
        have a5 := HS2.out.2.2.lt
        go_wp2_with fail
        go_ret
        exact ⟨ret_eq (by have u0 := HpV.out; have u1 := HeV.out; simp [*]), HS2.out.1, HS2.out.2.1⟩
      · have HeV := Lib.hid (decide_eq_false hpq)
        have g7 : (p == q) = false := beq_eq_false_iff_ne.2 hpq
        have g8 : (p != q) = true := by rw [bne_iff_ne]; exact hpq
        clear hpq
        by_cases hz : s.size = 0
        · have HzV := Lib.hid (decide_eq_true hz)
          have HzW : Hid ((⟨#[]⟩ : ByteArray) = ByteArray.empty) := Lib.hid rfl
          have hs9 := empty_of hz
          subst hs9
          clear hz
          go_wp2_with fail
          refine (HPp.out _).mono ?_
          rintro e X1 ⟨rfl, hz⟩
          have HS1 := Lib.hid (And.intro (HS0.out.1.exk hz) (And.intro (HS0.out.2.1.ex hz) (HS0.out.2.2.ex hz)))
          clear hz p0 p1 a2 a3 a4 a5
          have p0 : X1.cell? ⟨gp, 0, none⟩ = some (.func (.func 29) #[] #[]) := HS1.out.1.proc.cell 0
          have p1 := HS1.out.1.proc.lt
          have a2 : X1.cell? ⟨w.heap.size, 2, none⟩ = some (.int .i64 p) := HS1.out.2.2.cell 2
          have a3 : X1.cell? ⟨w.heap.size, 3, none⟩ = some (.int .i64 q) := HS1.out.2.2.cell 3
          have a4 : X1.cell? ⟨w.heap.size, 4, none⟩ = some (.string ⟨#[]⟩) := HS1.out.2.2.cell 4
          have a5 := HS1.out.2.2.lt
          go_wp2_with fail
          refine (HPq.out _).mono ?_
          rintro e X2 ⟨rfl, hz⟩
          have HS2 := Lib.hid (And.intro (HS1.out.1.exk hz) (And.intro (HS1.out.2.1.ex hz) (HS1.out.2.2.ex hz)))
          clear hz p0 p1 a2 a3 a4 a5
          have p0 : X2.cell? ⟨gp, 0, none⟩ = some (.func (.func 29) #[] #[]) := HS2.out.1.proc.cell 0
          have p1 := HS2.out.1.proc.lt
          have a2 : X2.cell? ⟨w.heap.size, 2, none⟩ = some (.int .i64 p) := HS2.out.2.2.cell 2
          have a3 : X2.cell? ⟨w.heap.size, 3, none⟩ = some (.int .i64 q) := HS2.out.2.2.cell 3
          have a4 : X2.cell? ⟨w.heap.size, 4, none⟩ = some (.string ⟨#[]⟩) := HS2.out.2.2.cell 4
          have a5 := HS2.out.2.2.lt
          go_wp2_with fail
          go_ret
          exact ⟨ret_eq (by have u0 := HpV.out; have u1 := HqV.out; have u2 := HeV.out; have u3 := HzW.out; simp [*]), HS2.out.1, HS2.out.2.1⟩
        · have HzV := Lib.hid (decide_eq_false hz)
          have HzW : Hid (¬ s = ByteArray.empty) := Lib.hid (fun e => hz (by rw [e]; rfl))
          have g4 : s.toList.isEmpty = false := by rw [nonempty_iff, decide_eq_false hz]
          have g5 : (s.toList == []) = false := by rw [beq_eq_false_iff_ne]; intro h9; rw [h9] at g4; simp at g4
          have g6 : (s.toList != []) = true := by unfold bne; rw [g5]; rfl
          clear hz
          go_wp2_with fail
          refine (HPp.out _).mono ?_
          rintro e X1 ⟨rfl, hz⟩
          have HS1 := Lib.hid (And.intro (HS0.out.1.exk hz) (And.intro (HS0.out.2.1.ex hz) (HS0.out.2.2.ex hz)))
          clear hz p0 p1 a2 a3 a4 a5
          have p0 : X1.cell? ⟨gp, 0, none⟩ = some (.func (.func 29) #[] #[]) := HS1.out.1.proc.cell 0
          have p1 := HS1.out.1.proc.lt
          have a2 : X1.cell? ⟨w.heap.size, 2, none⟩ = some (.int .i64 p) := HS1.out.2.2.cell 2
          have a3 : X1.cell? ⟨w.heap.size, 3, none⟩ = some (.int .i64 q) := HS1.out.2.2.cell 3
          have a4 : X1.cell? ⟨w.heap.size, 4, none⟩ = some (.string s) := HS1.out.2.2.cell 4
          have a5 := HS1.out.2.2.lt
          go_wp2_with fail
          refine (HPq.out _).mono ?_
          rintro e X2 ⟨rfl, hz⟩
          have HS2 := Lib.hid (And.intro (HS1.out.1.exk hz) (And.intro (HS1.out.2.1.ex hz) (HS1.out.2.2.ex hz)))
          clear hz p0 p1 a2 a3 a4 a5
          have p0 : X2.cell? ⟨gp, 0, none⟩ = some (.func (.func 29) #[] #[]) := HS2.out.1.proc.cell 0
          have p1 := HS2.out.1.proc.lt
          have a2 : X2.cell? ⟨w.heap.size, 2, none⟩ = some (.int .i64 p) := HS2.out.2.2.cell 2
          have a3 : X2.cell? ⟨w.heap.size, 3, none⟩ = some (.int .i64 q) := HS2.out.2.2.cell 3
          have a4 : X2.cell? ⟨w.heap.size, 4, none⟩ = some (.string s) := HS2.out.2.2.cell 4
          have a5 := HS2.out.2.2.lt
          go_wp2_with fail
          go_ret
          exact ⟨ret_eq (by have u0 := HpV.out; have u1 := HqV.out; have u2 := HeV.out; have u3 := HzW.out; simp [*]), HS2.out.1, HS2.out.2.1⟩
set_option maxRecDepth 40000 in
set_option maxHeartbeats 3200000 in
theorem procs2_o (k n p q : Int) (s : ByteArray) (A : Option Addr) (m c : Nat) (W : World) (ba go gp : Nat) (acc : List Int) (w : World) (h : PS W ba go gp acc w) (h2 : k ≠ 2) (h3 : k ≠ 3) (h4 : k ≠ 4) :
    Calls Tryz.prog 32 #[.agg #[.int .i64 k, .int .i64 n, .int .i64 p, .int .i64 q, .string s, .slice A m c], .pointer (some ⟨go, 0, none⟩), .pointer (some ⟨gp, 0, none⟩)] w (PRs W ba go gp w acc (nodeR k p q s)) := by
  unfold PRs
  rw [show nodeR k p q s = (decide (p = 0) && decide (q = 0) && decide (s.size = 0)) by unfold nodeR; rw [if_neg h2, if_neg h3, if_neg h4]]
  have e2 : (k == 2) = false := beq_eq_false_iff_ne.2 h2
  have e3 : (k == 3) = false := beq_eq_false_iff_ne.2 h3
  have e4 : (k == 4) = false := beq_eq_false_iff_ne.2 h4
  clear h2 h3 h4
  by_cases ha : p = 0
  · rw [decide_eq_true ha]
    subst ha
    by_cases hb : q = 0
    · rw [decide_eq_true hb]
      subst hb
      by_cases hz : s.size = 0
      · rw [decide_eq_true hz]
        have hs9 := empty_of hz
        subst hs9
        go_enter Tryz.func32, Tryz.ntmps32
        go_wp2_with fail
        go_ret
        exact ⟨ret_eq (by first | rfl | simp), h.exk ((Ex.refl _).alloc _), Kp.of ((Ex.refl _).alloc _)⟩
      · rw [decide_eq_false hz]
        have g4 : s.toList.isEmpty = false := by rw [nonempty_iff, decide_eq_false hz]
        have g5 : (s.toList == []) = false := by rw [beq_eq_false_iff_ne]; intro h9; rw [h9] at g4; simp at g4
        have g6 : (s.toList != []) = true := by unfold bne; rw [g5]; rfl
        go_enter Tryz.func32, Tryz.ntmps32
        go_wp2_with fail
        go_ret
        exact ⟨ret_eq (by first | rfl | simp), h.exk ((Ex.refl _).alloc _), Kp.of ((Ex.refl _).alloc _)⟩
    · rw [decide_eq_false hb]
      have b1 : (q == 0) = false := beq_eq_false_iff_ne.2 hb
      have b1' : (q != 0) = true := by rw [bne_iff_ne]; exact hb
      clear hb
      go_enter Tryz.func32, Tryz.ntmps32
      go_wp2_with fail
      go_ret
      exact ⟨ret_eq (by first | rfl | simp), h.exk ((Ex.refl _).alloc _), Kp.of ((Ex.refl _).alloc _)⟩
  · rw [decide_eq_false ha]
    have a1 : (p == 0) = false := beq_eq_false_iff_ne.2 ha
    have a1' : (p != 0) = true := by rw [bne_iff_ne]; exact ha
    clear ha
    go_enter Tryz.func32, Tryz.ntmps32
    go_wp2_with fail
    go_ret
    exact ⟨ret_eq (by first | rfl | simp), h.exk ((Ex.refl _).alloc _), Kp.of ((Ex.refl _).alloc _)⟩
theorem procs2_c (k n p q : Int) (s : ByteArray) (A : Option Addr) (m c : Nat) (W : World) (ba go gp : Nat) (acc : List Int) (w : World) (h : PS W ba go gp acc w) (hs : s.size ≤ maxLen) (hlen : acc.length ≤ 1000000) :
    Calls Tryz.prog 32 #[.agg #[.int .i64 k, .int .i64 n, .int .i64 p, .int .i64 q, .string s, .slice A m c], .pointer (some ⟨go, 0, none⟩), .pointer (some ⟨gp, 0, none⟩)] w (PRs W ba go gp w (acc ++ ownP k p q) (nodeR k p q s)) := by
  by_cases h2 : k = 2
  · subst h2; exact procs2_2 n p q s A m c W ba go gp acc w h hs hlen
  by_cases h3 : k = 3
  · subst h3; exact procs2_3 n p q s A m c W ba go gp acc w h hs hlen
  by_cases h4 : k = 4
  · subst h4; exact procs2_4 n p q s A m c W ba go gp acc w h hs hlen
  rw [show ownP k p q = [] by unfold ownP; rw [if_neg (by omega), if_neg h4], List.append_nil]
  exact procs2_o k n p q s A m c W ba go gp acc w h h2 h3 h4
set_option maxHeartbeats 1600000 in
theorem parts_w (k : Int) (w : World) : Calls Tryz.prog 54 #[.int .i64 k] w (fun e w' => e = .returned (.int .i64 (partsI k)) ∧ w' = w) := by
  by_cases hk : 1 ≤ k ∧ k ≤ 21
  · have hc : k = 1 ∨ k = 2 ∨ k = 3 ∨ k = 4 ∨ k = 5 ∨ k = 6 ∨ k = 7 ∨ k = 8 ∨ k = 9 ∨ k = 10 ∨ k = 11 ∨ k = 12 ∨ k = 13 ∨ k = 14 ∨ k = 15 ∨ k = 16 ∨ k = 17 ∨ k = 18 ∨ k = 19 ∨ k = 20 ∨ k = 21 := by omega
    clear hk
    rcases hc with rfl | rfl | rfl | rfl | rfl | rfl | rfl | rfl | rfl | rfl | rfl | rfl | rfl | rfl | rfl | rfl | rfl | rfl | rfl | rfl | rfl
    all_goals
      go_enter Tryz.func54, Tryz.ntmps54
      go_wp2_with fail
      go_ret
      exact ⟨ret_eq (by simp [partsI]), rfl⟩
  · have hn : partsI k = (-1) := by unfold partsI; rw [if_neg (show ¬ (k = 1 ∨ k = 2 ∨ k = 3 ∨ k = 4 ∨ k = 13 ∨ k = 14) by omega), if_neg (show ¬ (k = 5 ∨ k = 15 ∨ k = 18 ∨ k = 19 ∨ k = 20 ∨ k = 21) by omega), if_neg (show ¬ (k = 6 ∨ k = 7 ∨ k = 8 ∨ k = 9 ∨ k = 10 ∨ k = 11 ∨ k = 12 ∨ k = 16 ∨ k = 17) by omega)]
    rw [hn]
    have e1 : (k == 1) = false := beq_eq_false_iff_ne.2 (by omega)
    have e2 : (k == 2) = false := beq_eq_false_iff_ne.2 (by omega)
    have e3 : (k == 3) = false := beq_eq_false_iff_ne.2 (by omega)
    have e4 : (k == 4) = false := beq_eq_false_iff_ne.2 (by omega)
    have e5 : (k == 5) = false := beq_eq_false_iff_ne.2 (by omega)
    have e6 : (k == 6) = false := beq_eq_false_iff_ne.2 (by omega)
    have e7 : (k == 7) = false := beq_eq_false_iff_ne.2 (by omega)
    have e8 : (k == 8) = false := beq_eq_false_iff_ne.2 (by omega)
    have e9 : (k == 9) = false := beq_eq_false_iff_ne.2 (by omega)
    have e10 : (k == 10) = false := beq_eq_false_iff_ne.2 (by omega)
    have e11 : (k == 11) = false := beq_eq_false_iff_ne.2 (by omega)
    have e12 : (k == 12) = false := beq_eq_false_iff_ne.2 (by omega)
    have e13 : (k == 13) = false := beq_eq_false_iff_ne.2 (by omega)
    have e14 : (k == 14) = false := beq_eq_false_iff_ne.2 (by omega)
    have e15 : (k == 15) = false := beq_eq_false_iff_ne.2 (by omega)
    have e16 : (k == 16) = false := beq_eq_false_iff_ne.2 (by omega)
    have e17 : (k == 17) = false := beq_eq_false_iff_ne.2 (by omega)
    have e18 : (k == 18) = false := beq_eq_false_iff_ne.2 (by omega)
    have e19 : (k == 19) = false := beq_eq_false_iff_ne.2 (by omega)
    have e20 : (k == 20) = false := beq_eq_false_iff_ne.2 (by omega)
    have e21 : (k == 21) = false := beq_eq_false_iff_ne.2 (by omega)
    clear hk hn
    go_enter Tryz.func54, Tryz.ntmps54
    go_wp2_with fail
    go_ret
    exact ⟨rfl, rfl⟩
/-- the processes of a tree, in order -/
def prL : Tr → List Int
  | .node k _ p q _ l => ownP k p q ++ (l.map prL).flatten
theorem pr_node (k n p q : Int) (s : ByteArray) (l : List Tr) : prL (.node k n p q s l) = ownP k p q ++ (l.map prL).flatten := by conv => lhs; unfold prL
theorem own_le (k p q : Int) : (ownP k p q).length ≤ 2 := by unfold ownP; repeat' split
                                                             all_goals simp
theorem flat_le : ∀ (l : List Tr), (∀ x ∈ l, (prL x).length ≤ 2 * x.size) → ((l.map prL).flatten).length ≤ 2 * (l.map Tr.size).sum
  | [], _ => by simp
  | y :: l, h => by
    have h1 := h y (List.mem_cons_self ..)
    have h2 := flat_le l (fun x hx => h x (List.mem_cons_of_mem _ hx))
    simp only [List.map_cons, List.flatten_cons, List.length_append, List.sum_cons]
    omega
theorem pr_le (t : Tr) : (prL t).length ≤ 2 * t.size := by
  induction t using Tr.induct with
  | h k n p q s l ih =>
    rw [pr_node, Tr.size_node, List.length_append]
    have h1 := own_le k p q
    have h2 := flat_le l ih
    omega
theorem flat_take (l : List Tr) (j : Nat) (x : Tr) (h : l[j]? = some x) : (((l.take (j + 1)).map prL).flatten) = ((l.take j).map prL).flatten ++ prL x := by
  rw [List.take_add_one, h]
  simp
theorem flat_room (l : List Tr) (j : Nat) (x : Tr) (h : l[j]? = some x) : (((l.take j).map prL).flatten).length + 2 * x.size ≤ 2 * (l.map Tr.size).sum := by
  have h1 := flat_le (l.take j) (fun x _ => pr_le x)
  have h2 : (l.map Tr.size)[j]? = some x.size := by rw [List.getElem?_map, h]; rfl
  have h3 := sum_take _ _ _ h2
  have h4 := sum_le (l.map Tr.size) (j + 1)
  simp only [← List.map_take] at h3 h4
  omega
/-- what a walk over parts leaves: the numbers so far, where all is well those of L more -/
def FR (W : World) (ba go gp : Nat) (w : World) (acc L : List Int) (ok b : Bool) (e : Ending) (w' : World) : Prop :=
  e = .returned (.bool b) ∧ ∃ acc', PS W ba go gp acc' w' ∧ Kp go w w' ∧ (ok = true → acc' = acc ++ L)
theorem innerP_c (b : Bool) (g : Nat) (k n p q : Int) (s : ByteArray) (A : Option Addr) (m c : Nat) (W : World) (ba go gp : Nat) (acc L : List Int) (w : World) (hB : Blk w g 26 [.func (.func 32) #[] #[.pointer (some ⟨go, 0, none⟩), .pointer (some ⟨gp, 0, none⟩)]])
    (H : ∀ w', Ex w w' → Calls Tryz.prog 31 #[.agg #[.int .i64 k, .int .i64 n, .int .i64 p, .int .i64 q, .string s, .slice A m c], .func (.func 32) #[] #[.pointer (some ⟨go, 0, none⟩), .pointer (some ⟨gp, 0, none⟩)]] w' (FR W ba go gp w' acc L b b)) :
    Calls Tryz.prog 56 #[.agg #[.int .i64 k, .int .i64 n, .int .i64 p, .int .i64 q, .string s, .slice A m c], .pointer (some ⟨g, 0, none⟩)] w (FR W ba go gp w acc L b (!b)) := by
  have H' := Lib.hid H
  have hg := hB.cell 0
  have hgl := hB.lt
  simp only [List.getElem?_cons_zero] at hg
  clear H hB
  unfold FR at *
  go_enter Tryz.func56, Tryz.ntmps56
  go_wp2_with fail
  refine (H'.out _ ((Ex.refl _).alloc _)).mono ?_
  rintro e w' ⟨rfl, acc', hps, hkp, hL⟩
  have HH := Lib.hid (And.intro hps (And.intro ((Kp.of ((Ex.refl w).alloc _)).trans hkp) hL))
  clear hps hkp hL H'
  go_wp2_with fail
  go_ret
  exact ⟨rfl, acc', HH.out⟩
set_option maxRecDepth 40000 in
set_option maxHeartbeats 3200000 in
theorem indexP_c (Q : Nat → Prop) (l : List Tr) (A : Option Addr) (c g : Nat) (W : World) (ba go gp : Nat) (acc : List Int) (w : World) (FB : Tr → Bool) (hl : l.length ≤ 1000000) (hgo : go ≠ g) (hp : PS W ba go gp acc w) (hB : Blk w g 26 [.func (.func 32) #[] #[.pointer (some ⟨go, 0, none⟩), .pointer (some ⟨gp, 0, none⟩)]]) (hk : ∀ j x, l[j]? = some x → Kid Q W A j x)
    (hi : ∀ (j : Nat) (x : Tr), l[j]? = some x → ∀ w', PS W ba go gp (acc ++ ((l.take j).map prL).flatten) w' → Blk w' g 26 [.func (.func 32) #[] #[.pointer (some ⟨go, 0, none⟩), .pointer (some ⟨gp, 0, none⟩)]] → ∀ k n p q s B m c, TrC Q W x (c6 k n p q s B m c) → Calls Tryz.prog 56 #[.agg #[.int .i64 k, .int .i64 n, .int .i64 p, .int .i64 q, .string s, .slice B m c], .pointer (some ⟨g, 0, none⟩)] w' (FR W ba go gp w' (acc ++ ((l.take j).map prL).flatten) (prL x) (FB x) (!FB x))) :
    Calls Tryz.prog 86 #[.slice A l.length c, .func (.func 56) #[] #[.pointer (some ⟨g, 0, none⟩)]] w (fun e w' => ∃ v : Int, e = .returned (.int .i64 v) ∧ (decide (0 ≤ v) = l.any (fun x => !FB x)) ∧ ∃ acc', PS W ba go gp acc' w' ∧ Kp go w w' ∧ ((l.any (fun x => !FB x)) = false → acc' = acc ++ (l.map prL).flatten)) := by
  have HK := Lib.hid hk
  have HI := Lib.hid hi
  have HG : Hid (∀ k, k < l.length → ∃ x, l[k]? = some x) := fun k hk => ⟨_, List.getElem?_eq_getElem hk⟩
  have HA : Hid (∀ k x, l[k]? = some x → FB x = false → l.any (fun x => !FB x) = true) := fun k x h hb => List.any_eq_true.2 ⟨x, List.mem_of_getElem? h, by rw [hb]; rfl⟩
  have HN : Hid ((∀ k x, l[k]? = some x → FB x = true) → l.any (fun x => !FB x) = false) := fun h => by
    rw [List.any_eq_false]
    intro x hx
    obtain ⟨k, hk⟩ := List.mem_iff_getElem?.1 hx
    rw [h k x hk]; simp
  have HIx : Hid (∀ (k : Nat) (x : Tr), l[k]? = some x → k < l.length) := fun k x h => (List.getElem?_eq_some_iff.1 h).1
  have HS := Lib.hid (And.intro hp hB)
  have Hgo := Lib.hid hgo
  clear hk hi hp hB hgo
  go_enter Tryz.func86, Tryz.ntmps86
  go_wp2_with fail
  go_loopw [8] (fun i wr => ∃ k : Nat, i = .int .i64 k ∧ k ≤ l.length ∧ Hid ((∀ (j : Nat) x, j < k → l[j]? = some x → FB x = true) ∧ PS W ba go gp (acc ++ ((l.take k).map prL).flatten) wr ∧ Kp go w wr)) (fun i _ => l.length - (intOf i).toNat)
  case atStart => exact ⟨0, rfl, by omega, Lib.hid ⟨fun j x h => by omega, by simpa using HS.out.1, Kp.refl _ _⟩⟩
  case round =>
    obtain ⟨j, rfl, hj, HP⟩ := hrel
    by_cases hlt : j < l.length
    · have m1 : (j : Int) < (l.length : Int) := by omega
      have m0 : (0 : Int) ≤ (j : Int) := by omega
      obtain ⟨x, hxk⟩ := HG.out j hlt
      obtain ⟨b, o, k2, n2, p2, q2, s2, B, m2, c2, rfl, hb, h0, h1, h2, h3, h4, h5, htx⟩ := HK.out j x hxk
      have hE := HP.out.2.1.ex.below
      replace h0 := (hE.cell (p := ⟨b, o + j * 6, none⟩) hb).trans h0
      replace h1 := (hE.cell (p := ⟨b, o + j * 6 + 1, none⟩) hb).trans h1
      replace h2 := (hE.cell (p := ⟨b, o + j * 6 + 2, none⟩) hb).trans h2
      replace h3 := (hE.cell (p := ⟨b, o + j * 6 + 3, none⟩) hb).trans h3
      replace h4 := (hE.cell (p := ⟨b, o + j * 6 + 4, none⟩) hb).trans h4
      replace h5 := (hE.cell (p := ⟨b, o + j * 6 + 5, none⟩) hb).trans h5
      replace hb := Nat.lt_of_lt_of_le hb hE.size
      clear hE
      have HC := Lib.hid (HI.out j x hxk wr HP.out.2.1 (HP.out.2.2.blk _ _ _ HS.out.2 (by decide) (Ne.symm Hgo.out)) k2 n2 p2 q2 s2 B m2 c2 htx)
      unfold FR at HC
      have Hxk := Lib.hid hxk
      clear hxk htx
      obtain ⟨qq, hq⟩ : ∃ qq, FB x = qq := ⟨_, rfl⟩
      rw [hq] at HC
      have Hq := Lib.hid hq
      clear hq
      cases qq
      · go_wp2_with fail
        refine HC.out.mono ?_
        rintro e w' ⟨rfl, acc', hps, hkp, -⟩
        have HH := Lib.hid (And.intro hps (HP.out.2.2.trans hkp))
        clear hps hkp
        go_wp2_with fail
        go_ret
        exact ⟨j, rfl, by rw [HA.out j _ Hxk.out Hq.out]; simp, acc', HH.out.1, HH.out.2, fun h => by rw [HA.out j _ Hxk.out Hq.out] at h; cases h⟩
      · go_wp2_with fail
        refine HC.out.mono ?_
        rintro e w' ⟨rfl, acc', hps, hkp, hL⟩
        have HH := Lib.hid (And.intro hps (And.intro (HP.out.2.2.trans hkp) (hL (by simp))))
        clear hps hkp hL
        go_wp2_with fail
        refine ⟨⟨j + 1, by go_num, by omega, Lib.hid ⟨fun i y h hi => ?_, ?_, HH.out.2.1⟩⟩, by simp [intOf]; omega⟩
        · by_cases hij : i = j
          · subst hij
            rw [Hxk.out] at hi
            injection hi with hi
            rw [← hi]; exact Hq.out
          · exact HP.out.1 i y (by omega) hi
        · rw [flat_take l j x Hxk.out, ← List.append_assoc, ← HH.out.2.2]
          exact HH.out.1
    · have m1 : decide ((j : Int) < (l.length : Int)) = false := decide_eq_false (by omega)
      have m2 : decide (j < l.length) = false := decide_eq_false (by omega)
      have hjl : j = l.length := by omega
      subst hjl
      have HQ : Hid (l.any (fun x => !FB x) = false) := HN.out (fun i x hi => HP.out.1 i x (HIx.out i x hi) hi)
      have HH := Lib.hid HP.out.2
      clear hlt
      go_wp2_with fail
      go_ret
      refine ⟨-1, rfl, by rw [HQ.out]; simp, _, HH.out.1, HH.out.2, fun _ => ?_⟩
      rw [List.take_of_length_le (Nat.le_refl _)]
theorem containsP_c (Q : Nat → Prop) (l : List Tr) (A : Option Addr) (c g : Nat) (W : World) (ba go gp : Nat) (acc : List Int) (w : World) (FB : Tr → Bool) (hl : l.length ≤ 1000000) (hgo : go ≠ g) (hp : PS W ba go gp acc w) (hB : Blk w g 26 [.func (.func 32) #[] #[.pointer (some ⟨go, 0, none⟩), .pointer (some ⟨gp, 0, none⟩)]]) (hk : ∀ j x, l[j]? = some x → Kid Q W A j x)
    (hi : ∀ (j : Nat) (x : Tr), l[j]? = some x → ∀ w', PS W ba go gp (acc ++ ((l.take j).map prL).flatten) w' → Blk w' g 26 [.func (.func 32) #[] #[.pointer (some ⟨go, 0, none⟩), .pointer (some ⟨gp, 0, none⟩)]] → ∀ k n p q s B m c, TrC Q W x (c6 k n p q s B m c) → Calls Tryz.prog 56 #[.agg #[.int .i64 k, .int .i64 n, .int .i64 p, .int .i64 q, .string s, .slice B m c], .pointer (some ⟨g, 0, none⟩)] w' (FR W ba go gp w' (acc ++ ((l.take j).map prL).flatten) (prL x) (FB x) (!FB x))) :
    Calls Tryz.prog 55 #[.slice A l.length c, .func (.func 56) #[] #[.pointer (some ⟨g, 0, none⟩)]] w (FR W ba go gp w acc (l.map prL).flatten (!(l.any (fun x => !FB x))) (l.any (fun x => !FB x))) := by
  have H := Lib.hid (indexP_c Q l A c g W ba go gp acc w FB hl hgo hp hB hk hi)
  obtain ⟨qq, hq⟩ : ∃ qq, l.any (fun x => !FB x) = qq := ⟨_, rfl⟩
  rw [hq] at H ⊢
  clear hq hk hi hp hB hgo
  unfold FR
  cases qq
  all_goals
    go_enter Tryz.func55, Tryz.ntmps55
    go_wp2_with fail
    refine H.out.mono ?_
    rintro e w' ⟨v, rfl, hv, acc', hps, hkp, hL⟩
    have HH := Lib.hid (And.intro hps (And.intro hkp hL))
    clear hps hkp hL
    go_wp2_with fail
    go_ret
    exact ⟨ret_eq (by first | rfl | (rw [hv])), acc', HH.out.1, HH.out.2.1, fun h => HH.out.2.2 (by first | trivial | (simp at h))⟩
set_option maxRecDepth 40000 in
set_option maxHeartbeats 3200000 in
theorem fp_A (k n p q : Int) (s : ByteArray) (A : Option Addr) (l : List Tr) (c : Nat) (go gp : Nat) (w : World) (h0 : partsI k ≠ (l.length : Int)) :
    Calls Tryz.prog 31 #[.agg #[.int .i64 k, .int .i64 n, .int .i64 p, .int .i64 q, .string s, .slice A l.length c], .func (.func 32) #[] #[.pointer (some ⟨go, 0, none⟩), .pointer (some ⟨gp, 0, none⟩)]] w (Ret w (.bool false)) := by
  have HP := Lib.hid (parts_k k)
  generalize hL : l.length = L at *
  have e0 : (partsI k != (L : Int)) = true := by rw [bne_iff_ne]; exact h0
  have e0' : (partsI k == (L : Int)) = false := beq_eq_false_iff_ne.2 h0
  clear h0
  clear hL
  try generalize partsI k = pI at *
  go_enter Tryz.func31, Tryz.ntmps31
  go_wp2_with fail
  refine wp_region_ext (by kernel_rfl) (by kernel_rfl) ?_
  repeat (go_big_quiet_step ((go_at_call 54; exact quiet_ext (HP.out _))))
  refine wpQuiet_end (fun z => ?_)
  go_wp2_with fail
  go_ret
  exact Ret.mk rfl ((((Ex.refl _).alloc _).alloc _).ext _)
set_option maxRecDepth 40000 in
set_option maxHeartbeats 3200000 in
theorem fp_B (k n p q : Int) (s : ByteArray) (A : Option Addr) (l : List Tr) (c : Nat) (go gp : Nat) (w : World) (h0 : partsI k = (l.length : Int)) (h1 : n ≠ 0) (h2 : k ≠ 1) :
    Calls Tryz.prog 31 #[.agg #[.int .i64 k, .int .i64 n, .int .i64 p, .int .i64 q, .string s, .slice A l.length c], .func (.func 32) #[] #[.pointer (some ⟨go, 0, none⟩), .pointer (some ⟨gp, 0, none⟩)]] w (Ret w (.bool false)) := by
  have HP := Lib.hid (parts_k k)
  generalize hL : l.length = L at *
  have e1 : (n != 0) = true := by rw [bne_iff_ne]; exact h1
  have e1' : (n == 0) = false := beq_eq_false_iff_ne.2 h1
  have e2 : (k != 1) = true := by rw [bne_iff_ne]; exact h2
  have e2' : (k == 1) = false := beq_eq_false_iff_ne.2 h2
  rw [h0] at HP
  clear h0 h1 h2
  clear hL
  try generalize partsI k = pI at *
  go_enter Tryz.func31, Tryz.ntmps31
  go_wp2_with fail
  refine wp_region_ext (by kernel_rfl) (by kernel_rfl) ?_
  repeat (go_big_quiet_step ((go_at_call 54; exact quiet_ext (HP.out _))))
  refine wpQuiet_end (fun z => ?_)
  go_wp2_with fail
  go_ret
  exact Ret.mk rfl ((((Ex.refl _).alloc _).alloc _).ext _)
set_option maxRecDepth 40000 in
set_option maxHeartbeats 3200000 in
theorem fp_C (k n p q : Int) (s : ByteArray) (A : Option Addr) (l : List Tr) (c : Nat) (go gp : Nat) (w : World) (h0 : partsI k = (l.length : Int)) (h1 : n < 0) (h2 : k = 1) :
    Calls Tryz.prog 31 #[.agg #[.int .i64 k, .int .i64 n, .int .i64 p, .int .i64 q, .string s, .slice A l.length c], .func (.func 32) #[] #[.pointer (some ⟨go, 0, none⟩), .pointer (some ⟨gp, 0, none⟩)]] w (Ret w (.bool false)) := by
  have HP := Lib.hid (parts_k k)
  generalize hL : l.length = L at *
  have e1 : (n != 0) = true := by rw [bne_iff_ne]; omega
  have e1' : (n == 0) = false := beq_eq_false_iff_ne.2 (by omega)
  have e3 : decide (n < 0) = true := decide_eq_true h1
  subst h2
  rw [h0] at HP
  clear h0
  clear hL
  try generalize partsI k = pI at *
  go_enter Tryz.func31, Tryz.ntmps31
  go_wp2_with fail
  refine wp_region_ext (by kernel_rfl) (by kernel_rfl) ?_
  repeat (go_big_quiet_step ((go_at_call 54; exact quiet_ext (HP.out _))))
  refine wpQuiet_end (fun z => ?_)
  go_wp2_with fail
  go_ret
  exact Ret.mk rfl ((((Ex.refl _).alloc _).alloc _).ext _)
set_option maxRecDepth 40000 in
set_option maxHeartbeats 3200000 in
theorem fp_D (k n p q : Int) (s : ByteArray) (A : Option Addr) (l : List Tr) (c : Nat) (go gp : Nat) (w : World) (h0 : partsI k = (l.length : Int)) (h1 : 1125899906842624 < n) (h2 : k = 1) :
    Calls Tryz.prog 31 #[.agg #[.int .i64 k, .int .i64 n, .int .i64 p, .int .i64 q, .string s, .slice A l.length c], .func (.func 32) #[] #[.pointer (some ⟨go, 0, none⟩), .pointer (some ⟨gp, 0, none⟩)]] w (Ret w (.bool false)) := by
  have HP := Lib.hid (parts_k k)
  generalize hL : l.length = L at *
  have e1 : (n != 0) = true := by rw [bne_iff_ne]; omega
  have e1' : (n == 0) = false := beq_eq_false_iff_ne.2 (by omega)
  have e3 : decide (n < 0) = false := decide_eq_false (by omega)
  have e4 : decide (1125899906842624 < n) = true := decide_eq_true h1
  subst h2
  rw [h0] at HP
  clear h0
  clear hL
  try generalize partsI k = pI at *
  go_enter Tryz.func31, Tryz.ntmps31
  go_wp2_with fail
  refine wp_region_ext (by kernel_rfl) (by kernel_rfl) ?_
  repeat (go_big_quiet_step ((go_at_call 54; exact quiet_ext (HP.out _))))
  refine wpQuiet_end (fun z => ?_)
  go_wp2_with fail
  go_ret
  exact Ret.mk rfl ((((Ex.refl _).alloc _).alloc _).ext _)
set_option maxRecDepth 40000 in
set_option maxHeartbeats 3200000 in
theorem fp_F0 (k n p q : Int) (s : ByteArray) (A : Option Addr) (l : List Tr) (c : Nat) (W : World) (ba go gp : Nat) (acc : List Int) (w : World) (h : PS W ba go gp acc w) (hs : s.size ≤ maxLen) (hlen : acc.length ≤ 1000000) (h0 : partsI k = (l.length : Int)) (h3 : n = 0) (hv : nodeR k p q s = false) :
    Calls Tryz.prog 31 #[.agg #[.int .i64 k, .int .i64 n, .int .i64 p, .int .i64 q, .string s, .slice A l.length c], .func (.func 32) #[] #[.pointer (some ⟨go, 0, none⟩), .pointer (some ⟨gp, 0, none⟩)]] w (FR W ba go gp w acc [] false false) := by
  have HP := Lib.hid (parts_w k)
  have HV := Lib.hid (fun w' (hx : Ex w w') => procs2_c k n p q s A l.length c W ba go gp acc w' (h.exk hx) hs hlen)
  rw [hv] at HV
  rw [h0] at HP
  unfold PRs at HV
  unfold FR at *
  have Hgb : Hid (go < w.heap.size) := by have := h.hi; have := h.bs; unfold Hid; omega
  generalize ownP k p q = OW at *
  generalize hL : l.length = L at *
  subst h3
  clear hs hL h0 hv h hlen
  have HB2 : Hid (Blk (((w.alloc (.cells #[.int .i64 k, .int .i64 0, .int .i64 p, .int .i64 q, .string s, .slice A L c] 24)).alloc (.cells #[.func (.func 32) #[] #[.pointer (some ⟨go, 0, none⟩), .pointer (some ⟨gp, 0, none⟩)]] 26)).drew) w.heap.size 24 [.int .i64 k, .int .i64 0, .int .i64 p, .int .i64 q, .string s, .slice A L c]) := ((Blk.new w _ _).alloc _).drew
  have HB3 : Hid (Blk (((w.alloc (.cells #[.int .i64 k, .int .i64 0, .int .i64 p, .int .i64 q, .string s, .slice A L c] 24)).alloc (.cells #[.func (.func 32) #[] #[.pointer (some ⟨go, 0, none⟩), .pointer (some ⟨gp, 0, none⟩)]] 26)).drew) (w.heap.size + 1) 26 [.func (.func 32) #[] #[.pointer (some ⟨go, 0, none⟩), .pointer (some ⟨gp, 0, none⟩)]]) := (Blk.new' _ (by simp) _ _).drew
  go_enter Tryz.func31, Tryz.ntmps31
  go_wp2_with fail
  refine wp_region_tail 30 (by kernel_rfl) (by kernel_rfl) ?_
  simp only [List.take_succ_cons, List.take_zero, List.drop_succ_cons, List.drop_zero]
  repeat (first | go_big_quiet_step (fail) | (go_big_quiet_want; go_big_quiet_op; apply Exists.intro; refine ⟨(by go_at_call 54; exact HP.out _), ?_⟩; go_big_quiet_on))
  refine wpQuiet_on ?_
  generalize w.heap.size + 1 = nb at *
  go_wp2_with fail
  refine (HV.out _ (((Ex.refl _).alloc _).alloc _).drew).mono ?_
  rintro e w3 ⟨rfl, hps, hkp⟩
  have hk0 := (Kp.of (go := go) (((Ex.refl w).alloc _).alloc _).drew).trans hkp
  have hb2 := hkp.blk _ _ _ HB2.out (by decide) (by have := Hgb.out; omega)
  have HH := Lib.hid (And.intro hps hk0)
  clear hps hkp hk0 hb2
  go_wp2_with fail
  go_ret
  exact ⟨rfl, _, HH.out.1, HH.out.2, fun h => by cases h⟩
set_option maxRecDepth 40000 in
set_option maxHeartbeats 3200000 in
theorem fp_F1 (k n p q : Int) (s : ByteArray) (A : Option Addr) (l : List Tr) (c : Nat) (W : World) (ba go gp : Nat) (acc : List Int) (w : World) (h : PS W ba go gp acc w) (hs : s.size ≤ maxLen) (hlen : acc.length ≤ 1000000) (h0 : partsI k = (l.length : Int)) (h1 : 0 ≤ n) (h2 : n ≤ 1125899906842624) (h3 : n ≠ 0) (h4 : k = 1) (hv : nodeR k p q s = false) :
    Calls Tryz.prog 31 #[.agg #[.int .i64 k, .int .i64 n, .int .i64 p, .int .i64 q, .string s, .slice A l.length c], .func (.func 32) #[] #[.pointer (some ⟨go, 0, none⟩), .pointer (some ⟨gp, 0, none⟩)]] w (FR W ba go gp w acc [] false false) := by
  have HP := Lib.hid (parts_w k)
  have HV := Lib.hid (fun w' (hx : Ex w w') => procs2_c k n p q s A l.length c W ba go gp acc w' (h.exk hx) hs hlen)
  rw [hv] at HV
  rw [h0] at HP
  unfold PRs at HV
  unfold FR at *
  have Hgb : Hid (go < w.heap.size) := by have := h.hi; have := h.bs; unfold Hid; omega
  generalize ownP k p q = OW at *
  generalize hL : l.length = L at *
  have e1 : (n != 0) = true := by rw [bne_iff_ne]; exact h3
  have e1' : (n == 0) = false := beq_eq_false_iff_ne.2 h3
  have e3 : decide (n < 0) = false := decide_eq_false (by omega)
  have e4 : decide (1125899906842624 < n) = false := decide_eq_false (by omega)
  subst h4
  clear hs hL h0 hv h hlen
  have HB2 : Hid (Blk (((w.alloc (.cells #[.int .i64 1, .int .i64 n, .int .i64 p, .int .i64 q, .string s, .slice A L c] 24)).alloc (.cells #[.func (.func 32) #[] #[.pointer (some ⟨go, 0, none⟩), .pointer (some ⟨gp, 0, none⟩)]] 26)).drew) w.heap.size 24 [.int .i64 1, .int .i64 n, .int .i64 p, .int .i64 q, .string s, .slice A L c]) := ((Blk.new w _ _).alloc _).drew
  have HB3 : Hid (Blk (((w.alloc (.cells #[.int .i64 1, .int .i64 n, .int .i64 p, .int .i64 q, .string s, .slice A L c] 24)).alloc (.cells #[.func (.func 32) #[] #[.pointer (some ⟨go, 0, none⟩), .pointer (some ⟨gp, 0, none⟩)]] 26)).drew) (w.heap.size + 1) 26 [.func (.func 32) #[] #[.pointer (some ⟨go, 0, none⟩), .pointer (some ⟨gp, 0, none⟩)]]) := (Blk.new' _ (by simp) _ _).drew
  go_enter Tryz.func31, Tryz.ntmps31
  go_wp2_with fail
  refine wp_region_tail 30 (by kernel_rfl) (by kernel_rfl) ?_
  simp only [List.take_succ_cons, List.take_zero, List.drop_succ_cons, List.drop_zero]
  repeat (first | go_big_quiet_step (fail) | (go_big_quiet_want; go_big_quiet_op; apply Exists.intro; refine ⟨(by go_at_call 54; exact HP.out _), ?_⟩; go_big_quiet_on))
  refine wpQuiet_on ?_
  generalize w.heap.size + 1 = nb at *
  go_wp2_with fail
  refine (HV.out _ (((Ex.refl _).alloc _).alloc _).drew).mono ?_
  rintro e w3 ⟨rfl, hps, hkp⟩
  have hk0 := (Kp.of (go := go) (((Ex.refl w).alloc _).alloc _).drew).trans hkp
  have hb2 := hkp.blk _ _ _ HB2.out (by decide) (by have := Hgb.out; omega)
  have HH := Lib.hid (And.intro hps hk0)
  clear hps hkp hk0 hb2
  go_wp2_with fail
  go_ret
  exact ⟨rfl, _, HH.out.1, HH.out.2, fun h => by cases h⟩
set_option maxRecDepth 40000 in
set_option maxHeartbeats 3200000 in
theorem fp_T0 (k n p q : Int) (s : ByteArray) (A : Option Addr) (l : List Tr) (c : Nat) (W : World) (ba go gp : Nat) (acc : List Int) (w : World) (h : PS W ba go gp acc w) (hs : s.size ≤ maxLen) (hlen : acc.length ≤ 1000000) (h0 : partsI k = (l.length : Int)) (h3 : n = 0) (hv : nodeR k p q s = true) (bb : Bool) (LL : List Int)
    (HC : Hid (∀ w' g, PS W ba go gp (acc ++ ownP k p q) w' → Blk w' g 26 [.func (.func 32) #[] #[.pointer (some ⟨go, 0, none⟩), .pointer (some ⟨gp, 0, none⟩)]] → go ≠ g → Calls Tryz.prog 55 #[.slice A l.length c, .func (.func 56) #[] #[.pointer (some ⟨g, 0, none⟩)]] w' (FR W ba go gp w' (acc ++ ownP k p q) LL (!bb) bb))) :
    Calls Tryz.prog 31 #[.agg #[.int .i64 k, .int .i64 n, .int .i64 p, .int .i64 q, .string s, .slice A l.length c], .func (.func 32) #[] #[.pointer (some ⟨go, 0, none⟩), .pointer (some ⟨gp, 0, none⟩)]] w (FR W ba go gp w acc (ownP k p q ++ LL) (!bb) (!bb)) := by
  have HP := Lib.hid (parts_w k)
  have HV := Lib.hid (fun w' (hx : Ex w w') => procs2_c k n p q s A l.length c W ba go gp acc w' (h.exk hx) hs hlen)
  rw [hv] at HV
  rw [h0] at HP
  unfold PRs at HV
  unfold FR at *
  have Hgb : Hid (go < w.heap.size) := by have := h.hi; have := h.bs; unfold Hid; omega
  generalize ownP k p q = OW at *
  generalize hL : l.length = L at *
  subst h3
  clear hs hL h0 hv h hlen
  have HB2 : Hid (Blk (((w.alloc (.cells #[.int .i64 k, .int .i64 0, .int .i64 p, .int .i64 q, .string s, .slice A L c] 24)).alloc (.cells #[.func (.func 32) #[] #[.pointer (some ⟨go, 0, none⟩), .pointer (some ⟨gp, 0, none⟩)]] 26)).drew) w.heap.size 24 [.int .i64 k, .int .i64 0, .int .i64 p, .int .i64 q, .string s, .slice A L c]) := ((Blk.new w _ _).alloc _).drew
  have HB3 : Hid (Blk (((w.alloc (.cells #[.int .i64 k, .int .i64 0, .int .i64 p, .int .i64 q, .string s, .slice A L c] 24)).alloc (.cells #[.func (.func 32) #[] #[.pointer (some ⟨go, 0, none⟩), .pointer (some ⟨gp, 0, none⟩)]] 26)).drew) (w.heap.size + 1) 26 [.func (.func 32) #[] #[.pointer (some ⟨go, 0, none⟩), .pointer (some ⟨gp, 0, none⟩)]]) := (Blk.new' _ (by simp) _ _).drew
  go_enter Tryz.func31, Tryz.ntmps31
  go_wp2_with fail
  refine wp_region_tail 30 (by kernel_rfl) (by kernel_rfl) ?_
  simp only [List.take_succ_cons, List.take_zero, List.drop_succ_cons, List.drop_zero]
  repeat (first | go_big_quiet_step (fail) | (go_big_quiet_want; go_big_quiet_op; apply Exists.intro; refine ⟨(by go_at_call 54; exact HP.out _), ?_⟩; go_big_quiet_on))
  refine wpQuiet_on ?_
  have HNB : Hid (w.heap.size + 1 ≠ go) := by have := Hgb.out; unfold Hid; omega
  generalize w.heap.size + 1 = nb at *
  go_wp2_with fail
  refine (HV.out _ (((Ex.refl _).alloc _).alloc _).drew).mono ?_
  rintro e w3 ⟨rfl, hps, hkp⟩
  have hk0 := (Kp.of (go := go) (((Ex.refl w).alloc _).alloc _).drew).trans hkp
  have hb2 := hkp.blk _ _ _ HB2.out (by decide) (by have := Hgb.out; omega)
  have hb3 := hkp.blk _ _ _ HB3.out (by decide) HNB.out
  have a5 : w3.cell? ⟨w.heap.size, 5, none⟩ = some (.slice A L c) := hb2.cell 5
  have l5 := hb2.lt
  have HH := Lib.hid (And.intro hps (And.intro hk0 hb3))
  clear hps hkp hk0 hb2 hb3
  go_wp2_with fail
  refine (HC.out _ _ HH.out.1 HH.out.2.2 (Ne.symm HNB.out)).mono ?_
  rintro e w4 ⟨rfl, acc', hps, hkp, hL⟩
  have HH2 := Lib.hid (And.intro hps (And.intro (HH.out.2.1.trans hkp) hL))
  clear hps hkp hL
  go_wp2_with fail
  go_ret
  exact ⟨rfl, acc', HH2.out.1, HH2.out.2.1, fun h => by rw [HH2.out.2.2 h, List.append_assoc]⟩
set_option maxRecDepth 40000 in
set_option maxHeartbeats 3200000 in
theorem fp_T1 (k n p q : Int) (s : ByteArray) (A : Option Addr) (l : List Tr) (c : Nat) (W : World) (ba go gp : Nat) (acc : List Int) (w : World) (h : PS W ba go gp acc w) (hs : s.size ≤ maxLen) (hlen : acc.length ≤ 1000000) (h0 : partsI k = (l.length : Int)) (h1 : 0 ≤ n) (h2 : n ≤ 1125899906842624) (h3 : n ≠ 0) (h4 : k = 1) (hv : nodeR k p q s = true) (bb : Bool) (LL : List Int)
    (HC : Hid (∀ w' g, PS W ba go gp (acc ++ ownP k p q) w' → Blk w' g 26 [.func (.func 32) #[] #[.pointer (some ⟨go, 0, none⟩), .pointer (some ⟨gp, 0, none⟩)]] → go ≠ g → Calls Tryz.prog 55 #[.slice A l.length c, .func (.func 56) #[] #[.pointer (some ⟨g, 0, none⟩)]] w' (FR W ba go gp w' (acc ++ ownP k p q) LL (!bb) bb))) :
    Calls Tryz.prog 31 #[.agg #[.int .i64 k, .int .i64 n, .int .i64 p, .int .i64 q, .string s, .slice A l.length c], .func (.func 32) #[] #[.pointer (some ⟨go, 0, none⟩), .pointer (some ⟨gp, 0, none⟩)]] w (FR W ba go gp w acc (ownP k p q ++ LL) (!bb) (!bb)) := by
  have HP := Lib.hid (parts_w k)
  have HV := Lib.hid (fun w' (hx : Ex w w') => procs2_c k n p q s A l.length c W ba go gp acc w' (h.exk hx) hs hlen)
  rw [hv] at HV
  rw [h0] at HP
  unfold PRs at HV
  unfold FR at *
  have Hgb : Hid (go < w.heap.size) := by have := h.hi; have := h.bs; unfold Hid; omega
  generalize ownP k p q = OW at *
  generalize hL : l.length = L at *
  have e1 : (n != 0) = true := by rw [bne_iff_ne]; exact h3
  have e1' : (n == 0) = false := beq_eq_false_iff_ne.2 h3
  have e3 : decide (n < 0) = false := decide_eq_false (by omega)
  have e4 : decide (1125899906842624 < n) = false := decide_eq_false (by omega)
  subst h4
  clear hs hL h0 hv h hlen
  have HB2 : Hid (Blk (((w.alloc (.cells #[.int .i64 1, .int .i64 n, .int .i64 p, .int .i64 q, .string s, .slice A L c] 24)).alloc (.cells #[.func (.func 32) #[] #[.pointer (some ⟨go, 0, none⟩), .pointer (some ⟨gp, 0, none⟩)]] 26)).drew) w.heap.size 24 [.int .i64 1, .int .i64 n, .int .i64 p, .int .i64 q, .string s, .slice A L c]) := ((Blk.new w _ _).alloc _).drew
  have HB3 : Hid (Blk (((w.alloc (.cells #[.int .i64 1, .int .i64 n, .int .i64 p, .int .i64 q, .string s, .slice A L c] 24)).alloc (.cells #[.func (.func 32) #[] #[.pointer (some ⟨go, 0, none⟩), .pointer (some ⟨gp, 0, none⟩)]] 26)).drew) (w.heap.size + 1) 26 [.func (.func 32) #[] #[.pointer (some ⟨go, 0, none⟩), .pointer (some ⟨gp, 0, none⟩)]]) := (Blk.new' _ (by simp) _ _).drew
  go_enter Tryz.func31, Tryz.ntmps31
  go_wp2_with fail
  refine wp_region_tail 30 (by kernel_rfl) (by kernel_rfl) ?_
  simp only [List.take_succ_cons, List.take_zero, List.drop_succ_cons, List.drop_zero]
  repeat (first | go_big_quiet_step (fail) | (go_big_quiet_want; go_big_quiet_op; apply Exists.intro; refine ⟨(by go_at_call 54; exact HP.out _), ?_⟩; go_big_quiet_on))
  refine wpQuiet_on ?_
  have HNB : Hid (w.heap.size + 1 ≠ go) := by have := Hgb.out; unfold Hid; omega
  generalize w.heap.size + 1 = nb at *
  go_wp2_with fail
  refine (HV.out _ (((Ex.refl _).alloc _).alloc _).drew).mono ?_
  rintro e w3 ⟨rfl, hps, hkp⟩
  have hk0 := (Kp.of (go := go) (((Ex.refl w).alloc _).alloc _).drew).trans hkp
  have hb2 := hkp.blk _ _ _ HB2.out (by decide) (by have := Hgb.out; omega)
  have hb3 := hkp.blk _ _ _ HB3.out (by decide) HNB.out
  have a5 : w3.cell? ⟨w.heap.size, 5, none⟩ = some (.slice A L c) := hb2.cell 5
  have l5 := hb2.lt
  have HH := Lib.hid (And.intro hps (And.intro hk0 hb3))
  clear hps hkp hk0 hb2 hb3
  go_wp2_with fail
  refine (HC.out _ _ HH.out.1 HH.out.2.2 (Ne.symm HNB.out)).mono ?_
  rintro e w4 ⟨rfl, acc', hps, hkp, hL⟩
  have HH2 := Lib.hid (And.intro hps (And.intro (HH.out.2.1.trans hkp) hL))
  clear hps hkp hL
  go_wp2_with fail
  go_ret
  exact ⟨rfl, acc', HH2.out.1, HH2.out.2.1, fun h => by rw [HH2.out.2.2 h, List.append_assoc]⟩
theorem formedP_c : ∀ (N : Nat) (t : Tr) (Q : Nat → Prop) (W : World) (ba go gp : Nat) (acc : List Int) (w : World) (k n p q : Int) (s : ByteArray) (A : Option Addr) (m c : Nat), t.size ≤ N → acc.length + 2 * t.size ≤ 1000000 → NmOk t → TrC Q W t (c6 k n p q s A m c) → PS W ba go gp acc w →
    Calls Tryz.prog 31 #[.agg #[.int .i64 k, .int .i64 n, .int .i64 p, .int .i64 q, .string s, .slice A m c], .func (.func 32) #[] #[.pointer (some ⟨go, 0, none⟩), .pointer (some ⟨gp, 0, none⟩)]] w (FR W ba go gp w acc (prL t) (formedB nodeR t) (formedB nodeR t)) := by
  intro N
  induction N with
  | zero => intro t Q W ba go gp acc w k n p q s A m c h; exact absurd h (by have := t.size_pos; omega)
  | succ N ih =>
    intro t Q W ba go gp acc w k n p q s A m c hs hN hm ht hp
    obtain ⟨k1, n1, p1, q1, s1, l⟩ := t
    obtain ⟨rfl, rfl, rfl, rfl, rfl, rfl, hk⟩ := ht.kids
    have hlen := Tr.len_le (l := l)
    rw [Tr.size_node] at hs hN
    have hsz := hm.size
    have hOwn := own_le k p q
    have low : ∀ L ok, Calls Tryz.prog 31 #[.agg #[.int .i64 k, .int .i64 n, .int .i64 p, .int .i64 q, .string s, .slice A l.length c], .func (.func 32) #[] #[.pointer (some ⟨go, 0, none⟩), .pointer (some ⟨gp, 0, none⟩)]] w (Ret w (.bool false)) → ok = false → Calls Tryz.prog 31 #[.agg #[.int .i64 k, .int .i64 n, .int .i64 p, .int .i64 q, .string s, .slice A l.length c], .func (.func 32) #[] #[.pointer (some ⟨go, 0, none⟩), .pointer (some ⟨gp, 0, none⟩)]] w (FR W ba go gp w acc L ok false) := fun L ok H hok => H.mono fun e w' ⟨he, hx⟩ => ⟨he, acc, hp.exk hx, Kp.of hx, fun h => by rw [hok] at h; cases h⟩
    have lowF : ∀ L, Calls Tryz.prog 31 #[.agg #[.int .i64 k, .int .i64 n, .int .i64 p, .int .i64 q, .string s, .slice A l.length c], .func (.func 32) #[] #[.pointer (some ⟨go, 0, none⟩), .pointer (some ⟨gp, 0, none⟩)]] w (FR W ba go gp w acc [] false false) → Calls Tryz.prog 31 #[.agg #[.int .i64 k, .int .i64 n, .int .i64 p, .int .i64 q, .string s, .slice A l.length c], .func (.func 32) #[] #[.pointer (some ⟨go, 0, none⟩), .pointer (some ⟨gp, 0, none⟩)]] w (FR W ba go gp w acc L false false) := fun L H => H.mono fun e w' ⟨he, acc', h1, h2, h3⟩ => ⟨he, acc', h1, h2, fun h => by cases h⟩
    have HC : Hid (∀ w' g, PS W ba go gp (acc ++ ownP k p q) w' → Blk w' g 26 [.func (.func 32) #[] #[.pointer (some ⟨go, 0, none⟩), .pointer (some ⟨gp, 0, none⟩)]] → go ≠ g → Calls Tryz.prog 55 #[.slice A l.length c, .func (.func 56) #[] #[.pointer (some ⟨g, 0, none⟩)]] w' (FR W ba go gp w' (acc ++ ownP k p q) (l.map prL).flatten (!(l.any (fun x => !formedB nodeR x))) (l.any (fun x => !formedB nodeR x)))) := fun w' g h1 h2 h3 =>
      containsP_c Q l A c g W ba go gp _ w' (formedB nodeR) (by omega) h3 h1 h2 hk (fun j x hj w2 g1 g2 k n p q s B m c htx =>
        innerP_c (formedB nodeR x) g k n p q s B m c W ba go gp _ _ w2 g2 (fun w3 hx3 => ih x Q W ba go gp _ w3 k n p q s B m c (by have := mem_le_sum (l.map Tr.size) x.size (List.mem_map.2 ⟨x, List.mem_of_getElem? hj, rfl⟩); omega) (by
          have h5 := flat_room l j x hj
          have h6 := hOwn
          simp only [List.length_append]
          omega) (hm.kid x (List.mem_of_getElem? hj)) htx (g1.exk hx3)))
    rw [formed_node, pr_node]
    unfold headB
    by_cases h0 : partsI k = (l.length : Int)
    · rw [decide_eq_true h0]
      by_cases h3 : n = 0
      · have e : (true && (decide (n = 0) || decide (k = 1)) && decide (0 ≤ n) && decide (n ≤ 1125899906842624)) = true := by simp [h3]
        rw [e]
        cases hv : nodeR k p q s with
        | false => exact lowF _ (fp_F0 k n p q s A l c W ba go gp acc w hp hsz (by omega) h0 h3 hv)
        | true => exact fp_T0 k n p q s A l c W ba go gp acc w hp hsz (by omega) h0 h3 hv _ _ HC
      · by_cases h4 : k = 1
        · by_cases h5 : n < 0
          · have e : (true && (decide (n = 0) || decide (k = 1)) && decide (0 ≤ n) && decide (n ≤ 1125899906842624)) = false := by rw [decide_eq_false (show ¬ 0 ≤ n by omega)]; simp
            rw [e]
            exact low _ _ (fp_C k n p q s A l c go gp w h0 h5 h4) rfl
          · by_cases h6 : 1125899906842624 < n
            · have e : (true && (decide (n = 0) || decide (k = 1)) && decide (0 ≤ n) && decide (n ≤ 1125899906842624)) = false := by rw [decide_eq_false (show ¬ n ≤ 1125899906842624 by omega)]; simp
              rw [e]
              exact low _ _ (fp_D k n p q s A l c go gp w h0 h6 h4) rfl
            · have e : (true && (decide (n = 0) || decide (k = 1)) && decide (0 ≤ n) && decide (n ≤ 1125899906842624)) = true := by rw [decide_eq_true h4, decide_eq_true (show 0 ≤ n by omega), decide_eq_true (show n ≤ 1125899906842624 by omega)]; simp
              rw [e]
              cases hv : nodeR k p q s with
              | false => exact lowF _ (fp_F1 k n p q s A l c W ba go gp acc w hp hsz (by omega) h0 (by omega) (by omega) h3 h4 hv)
              | true => exact fp_T1 k n p q s A l c W ba go gp acc w hp hsz (by omega) h0 (by omega) (by omega) h3 h4 hv _ _ HC
        · have e : (true && (decide (n = 0) || decide (k = 1)) && decide (0 ≤ n) && decide (n ≤ 1125899906842624)) = false := by rw [decide_eq_false h3, decide_eq_false h4]; simp
          rw [e]
          exact low _ _ (fp_B k n p q s A l c go gp w h0 h3 h4) rfl
    · rw [decide_eq_false h0]
      simp only [Bool.false_and]
      exact low _ _ (fp_A k n p q s A l c go gp w h0) rfl
/-- eight marks -/
def bl (f : Nat → Bool) : List Value := (List.range 8).map (fun i => .bool (f i))
theorem bl_len (f : Nat → Bool) : (bl f).length = 8 := by simp [bl]
theorem bl_get (f : Nat → Bool) {k : Nat} (h : k < 8) : (bl f)[k]? = some (.bool (f k)) := by
  unfold bl
  rw [List.getElem?_map, List.getElem?_range h]; rfl
theorem bl_set (f : Nat → Bool) (k : Nat) (b : Bool) : (bl f).set k (.bool b) = bl (fun i => if i = k then b else f i) := by
  apply List.ext_getElem?
  intro i
  rw [List.getElem?_set]
  by_cases hi : i < 8
  · rw [bl_get _ hi, bl_get _ hi, bl_len]
    by_cases hk : k = i
    · subst hk; rw [if_pos rfl, if_pos hi, if_pos rfl]
    · rw [if_neg hk, if_neg (fun e => hk e.symm)]
  · have e : ∀ g : Nat → Bool, (bl g)[i]? = none := fun g => List.getElem?_eq_none (by rw [bl_len]; omega)
    rw [e, e, bl_len]
    split
    · rw [if_neg (by omega)]
    · rfl
theorem bl_congr {f g : Nat → Bool} (h : ∀ i, i < 8 → f i = g i) : bl f = bl g := by
  unfold bl
  apply List.map_congr_left
  intro i hi
  rw [h i (List.mem_range.1 hi)]
def memB (S : List Int) (i : Nat) : Bool := decide ((i : Int) ∈ S)
/-- all processes of a tree are numbers from 0 to 7, and nodes with names have no parts -/
inductive Okp : Tr → Prop where
  | node (k n p q : Int) (s : ByteArray) (l : List Tr) (h1 : k = 2 ∨ k = 3 ∨ k = 4 → 0 ≤ p ∧ p < 8) (h2 : k = 4 → 0 ≤ q ∧ q < 8) (hl : ∀ x ∈ l, Okp x) : Okp (.node k n p q s l)
theorem mk8 : ∀ w, Sem.run Tryz.prog (Instr.makeSlice 52 (.int .i64 8) (.int .i64 8)) w = .ok (.slice (some ⟨w.heap.size, 0, none⟩) 8 8) (w.alloc (.cells #[.bool false, .bool false, .bool false, .bool false, .bool false, .bool false, .bool false, .bool false] 4)) := fun _ => by kernel_rfl
/-- what mark leaves -/
def MkR (w : World) (S : List Int) (e : Ending) (w' : World) : Prop := ∃ g, e = .returned (.slice (some ⟨g, 0, none⟩) 8 8) ∧ w.heap.size ≤ g ∧ Blk w' g 4 (bl (memB S)) ∧ Ex w w'
set_option maxRecDepth 40000 in
set_option maxHeartbeats 3200000 in
theorem mark_o (k n p q : Int) (s : ByteArray) (A : Option Addr) (l : List Tr) (c : Nat) (w : World) (Q : Nat → Prop) (hl : l.length ≤ 1000000) (ht : TrC Q w (.node k n p q s l) (c6 k n p q s A l.length c)) (h2 : k ≠ 2) (h3 : k ≠ 3) (h4 : k ≠ 4)
    (HC : Hid (∀ (j : Nat) (x : Tr), l[j]? = some x → ∀ w' k n p q s A m c, TrC Q w' x (c6 k n p q s A m c) → Calls Tryz.prog 38 #[.agg #[.int .i64 k, .int .i64 n, .int .i64 p, .int .i64 q, .string s, .slice A m c]] w' (MkR w' (prL x)))) :
    Calls Tryz.prog 38 #[.agg #[.int .i64 k, .int .i64 n, .int .i64 p, .int .i64 q, .string s, .slice A l.length c]] w (MkR w (prL (.node k n p q s l))) := by
  obtain ⟨_, _, _, _, _, _, hk⟩ := ht.kids
  have HK := Lib.hid (fun w' (hx : Ex w w') j x (hj : l[j]? = some x) => (hk j x hj).ex hx)
  have HG : Hid (∀ j, j < l.length → ∃ x, l[j]? = some x) := fun j hj => ⟨_, List.getElem?_eq_getElem hj⟩
  have HPr := Lib.hid (pr_node k n p q s l)
  rw [HPr.out]
  clear HPr hk ht
  have HOw : Hid (ownP k p q = []) := by unfold ownP; rw [if_neg (by omega), if_neg h4]; exact Lib.hid rfl
  have hnm : namesB k = false := by unfold namesB; rw [decide_eq_false h2, decide_eq_false h3, decide_eq_false h4]; rfl
  have HNm := Lib.hid (fun w => names_c k w)
  rw [hnm] at HNm
  have HZ : Hid (Blk (w.alloc (.cells #[.int .i64 k, .int .i64 n, .int .i64 p, .int .i64 q, .string s, .slice A l.length c] 24)) w.heap.size 24 [.int .i64 k, .int .i64 n, .int .i64 p, .int .i64 q, .string s, .slice A l.length c]) := Blk.new w _ _
  have HX0 : Hid (Ex w (w.alloc (.cells #[.int .i64 k, .int .i64 n, .int .i64 p, .int .i64 q, .string s, .slice A l.length c] 24))) := (Ex.refl w).alloc _
  have hmk := mk8
  clear hnm h2 h3 h4
  go_enter Tryz.func38, Tryz.ntmps38
  go_wp2_with fail
  refine (HNm.out _).mono ?_
  rintro e w1 ⟨rfl, hx1⟩
  have hx2 := ((Ex.refl (w.alloc (.cells #[.int .i64 k, .int .i64 n, .int .i64 p, .int .i64 q, .string s, .slice A l.length c] 24))).alloc (.cells #[.bool false, .bool false, .bool false, .bool false, .bool false, .bool false, .bool false, .bool false] 4)).trans hx1
  have HB0 : Hid (Blk w1 (w.heap.size + 1) 4 (bl (fun _ => false))) := by
    rw [show bl (fun _ => false) = [.bool false, .bool false, .bool false, .bool false, .bool false, .bool false, .bool false, .bool false] from rfl]
    exact (Blk.new' _ (by simp) _ _).ex hx1
  have HZ1 := Lib.hid (HZ.out.ex hx2)
  have HX1 := Lib.hid (HX0.out.trans hx2)
  clear HZ HX0 hx1 hx2
  have HN : Hid (w.heap.size ≤ w.heap.size + 1 ∧ w.heap.size ≠ w.heap.size + 1) := ⟨by omega, by omega⟩
  have z0 : w1.cell? ⟨w.heap.size, 0, none⟩ = some (.int .i64 k) := HZ1.out.cell 0
  have z2 : w1.cell? ⟨w.heap.size, 2, none⟩ = some (.int .i64 p) := HZ1.out.cell 2
  have z3 : w1.cell? ⟨w.heap.size, 3, none⟩ = some (.int .i64 q) := HZ1.out.cell 3
  have z5 : w1.cell? ⟨w.heap.size, 5, none⟩ = some (.slice A l.length c) := HZ1.out.cell 5
  have zl := HZ1.out.lt
  have gl := HB0.out.lt
  have HBf := HB0
  have HZf := HZ1
  have HXf := HX1
  have HF0 : Hid (∀ i, i < 8 → (fun _ => false : Nat → Bool) i = memB (ownP k p q) i) := fun i _ => by rw [HOw.out]; rfl
  clear HB0 HZ1 HX1 HOw
  generalize w.heap.size + 1 = nb at *
  go_wp2_with fail
  go_loopw [4] (fun i wr => ∃ j : Nat, i = .int .i64 j ∧ j ≤ l.length ∧ Hid (∃ f, Blk wr nb 4 (bl f) ∧ (∀ i, i < 8 → f i = memB (ownP k p q ++ ((l.take j).map prL).flatten) i) ∧ Blk wr w.heap.size 24 [.int .i64 k, .int .i64 n, .int .i64 p, .int .i64 q, .string s, .slice A l.length c] ∧ Ex w wr)) (fun i _ => l.length - (intOf i).toNat)
  case atStart => exact ⟨0, rfl, Nat.zero_le _, Lib.hid ⟨_, HBf.out, fun i hi => by rw [HF0.out i hi]; simp, HZf.out, HXf.out⟩⟩
  case round =>
    obtain ⟨j, rfl, hj, HH⟩ := hrel
    obtain ⟨wo, rfl⟩ : ∃ wo : World, wo = wr := ⟨_, rfl⟩
    obtain ⟨f, hB, hf, hZ, hX⟩ := HH.out
    have r5 : wo.cell? ⟨w.heap.size, 5, none⟩ = some (.slice A l.length c) := hZ.cell 5
    have lz := hZ.lt
    have HS := Lib.hid (And.intro hB (And.intro hf (And.intro hZ hX)))
    clear hB hf hZ hX HH
    by_cases hlt : j < l.length
    · have m1 : (j : Int) < (l.length : Int) := by omega
      have m0 : (0 : Int) ≤ (j : Int) := by omega
      obtain ⟨x, hx⟩ := HG.out j hlt
      obtain ⟨b, o, k2, n2, p2, q2, s2, B, m2, c2, rfl, hb, h0, h1, h2, h3, h4, h5, htx⟩ := HK.out _ HS.out.2.2.2 j x hx
      have HCx := Lib.hid (HC.out j x hx wo k2 n2 p2 q2 s2 B m2 c2 htx)
      unfold MkR at HCx
      have HXj := Lib.hid hx
      clear htx hx
      go_wp2_with fail
      refine HCx.out.mono ?_
      rintro e w2 ⟨g2, rfl, hg2, hB2, hx2⟩
      have HS2 : Hid (Blk w2 nb 4 (bl f) ∧ Blk w2 g2 4 (bl (memB (prL x))) ∧ Blk w2 w.heap.size 24 [.int .i64 k, .int .i64 n, .int .i64 p, .int .i64 q, .string s, .slice (some ⟨b, o, none⟩) l.length c] ∧ Ex w w2) := ⟨HS.out.1.ex hx2, hB2, HS.out.2.2.1.ex hx2, HS.out.2.2.2.trans hx2⟩
      have HNE : Hid (g2 ≠ nb ∧ w.heap.size ≠ nb ∧ w.heap.size ≤ nb) := ⟨by have := HS.out.1.lt; omega, HN.out.2, HN.out.1⟩
      clear hg2 hB2 hx2 h0 h1 h2 h3 h4 h5 r5 lz HCx hb
      go_wp2_with fail
      go_loopw [6] (fun kk wr => ∃ kq : Nat, kk = .int .i64 kq ∧ kq ≤ 8 ∧ Hid (Blk wr nb 4 (bl (fun i => f i || (decide (i < kq) && memB (prL x) i))) ∧ Blk wr g2 4 (bl (memB (prL x))) ∧ Blk wr w.heap.size 24 [.int .i64 k, .int .i64 n, .int .i64 p, .int .i64 q, .string s, .slice (some ⟨b, o, none⟩) l.length c] ∧ Ex w wr)) (fun kk _ => 8 - (intOf kk).toNat)
      case atStart => exact ⟨0, rfl, by omega, Lib.hid ⟨by rw [bl_congr (g := f) (fun i _ => by simp)]; exact HS2.out.1, HS2.out.2⟩⟩
      case round =>
        obtain ⟨kk, rfl, hkk, HI⟩ := hrel
        by_cases hk8 : kk < 8
        · have n1 : (kk : Int) < 8 := by omega
          have n0 : (0 : Int) ≤ (kk : Int) := by omega
          have c1 : wr.cell? ⟨nb, kk, none⟩ = some (.bool (f kk)) := by rw [HI.out.1.cell, bl_get _ hk8]; simp
          have c2 : wr.cell? ⟨g2, kk, none⟩ = some (.bool (memB (prL x) kk)) := by rw [HI.out.2.1.cell, bl_get _ hk8]
          have f1 : wr.frozen? ⟨nb, kk, none⟩ = false := HI.out.1.frozen _
          have l1 := HI.out.1.lt
          have l2 := HI.out.2.1.lt
          have HE : Hid (∀ bb, bb = (f kk || memB (prL x) kk) → Blk (wr.setCell ⟨nb, kk, none⟩ (.bool bb)) nb 4 (bl (fun i => f i || (decide (i < kk + 1) && memB (prL x) i))) ∧ Blk (wr.setCell ⟨nb, kk, none⟩ (.bool bb)) g2 4 (bl (memB (prL x))) ∧ Blk (wr.setCell ⟨nb, kk, none⟩ (.bool bb)) w.heap.size 24 [.int .i64 k, .int .i64 n, .int .i64 p, .int .i64 q, .string s, .slice (some ⟨b, o, none⟩) l.length c] ∧ Ex w (wr.setCell ⟨nb, kk, none⟩ (.bool bb))) := by
            rintro bb rfl
            have h9 := HI.out.1.set_ kk (.bool (f kk || memB (prL x) kk))
            rw [bl_set] at h9
            refine ⟨?_, HI.out.2.1.far HNE.out.1 _, HI.out.2.2.1.far HNE.out.2.1 _, HI.out.2.2.2.setCell HNE.out.2.2 _⟩
            rw [bl_congr (g := fun i => if i = kk then (f kk || memB (prL x) kk) else (f i || (decide (i < kk) && memB (prL x) i)))]
            · exact h9
            · intro i hi
              by_cases hik : i = kk
              · subst hik; simp
              · rw [if_neg hik]
                by_cases h8 : i < kk
                · rw [decide_eq_true h8, decide_eq_true (show i < kk + 1 by omega)]
                · rw [decide_eq_false h8, decide_eq_false (show ¬ i < kk + 1 by omega)]
          cases hfk : f kk with
          | true =>
            rw [hfk] at c1 HE
            clear hfk
            go_wp2_with fail
            exact ⟨⟨kk + 1, by go_num, by omega, Lib.hid (HE.out true (by simp))⟩, by simp [intOf]; omega⟩
          | false =>
            rw [hfk] at c1 HE
            clear hfk
            go_wp2_with fail
            exact ⟨⟨kk + 1, by go_num, by omega, Lib.hid (HE.out (memB (prL x) kk) (by simp))⟩, by simp [intOf]; omega⟩
        · obtain rfl : kk = 8 := by omega
          have hn8 : decide ((8 : Int) < 8) = false := by decide
          go_wp2_with fail
          refine ⟨⟨j + 1, by go_num, by omega, Lib.hid ⟨_, HI.out.1, fun i hi => ?_, HI.out.2.2.1, HI.out.2.2.2⟩⟩, by simp [intOf]; omega⟩
          rw [HS.out.2.1 i hi, flat_take l j x HXj.out, decide_eq_true hi]
          unfold memB
          rw [Bool.true_and, ← Bool.decide_or]
          simp [List.mem_append, or_assoc]
    · have hjl : j = l.length := by omega
      subst hjl
      have m1 : decide (((l.length : Nat) : Int) < (l.length : Int)) = false := decide_eq_false (by omega)
      have HE : Hid (Blk wo nb 4 (bl (memB (ownP k p q ++ (l.map prL).flatten))) ∧ Ex w wo) := by
        have h9 := HS.out.2.1
        rw [List.take_of_length_le (Nat.le_refl _)] at h9
        have h8 := HS.out.1
        rw [bl_congr h9] at h8
        exact ⟨h8, HS.out.2.2.2⟩
      clear hlt HS
      go_wp2_with fail
      go_ret
      exact ⟨nb, rfl, HN.out.1, HE.out⟩
set_option maxRecDepth 40000 in
set_option maxHeartbeats 3200000 in
theorem mark_2 (n p q : Int) (s : ByteArray) (A : Option Addr) (l : List Tr) (c : Nat) (w : World) (Q : Nat → Prop) (hl : l.length ≤ 1000000) (ht : TrC Q w (.node 2 n p q s l) (c6 2 n p q s A l.length c)) (hp0 : 0 ≤ p) (hp8 : p < 8)
    (HC : Hid (∀ (j : Nat) (x : Tr), l[j]? = some x → ∀ w' k n p q s A m c, TrC Q w' x (c6 k n p q s A m c) → Calls Tryz.prog 38 #[.agg #[.int .i64 k, .int .i64 n, .int .i64 p, .int .i64 q, .string s, .slice A m c]] w' (MkR w' (prL x)))) :
    Calls Tryz.prog 38 #[.agg #[.int .i64 2, .int .i64 n, .int .i64 p, .int .i64 q, .string s, .slice A l.length c]] w (MkR w (prL (.node 2 n p q s l))) := by
  obtain ⟨_, _, _, _, _, _, hk⟩ := ht.kids
  have HK := Lib.hid (fun w' (hx : Ex w w') j x (hj : l[j]? = some x) => (hk j x hj).ex hx)
  have HG : Hid (∀ j, j < l.length → ∃ x, l[j]? = some x) := fun j hj => ⟨_, List.getElem?_eq_getElem hj⟩
  have HPr := Lib.hid (pr_node 2 n p q s l)
  rw [HPr.out]
  clear HPr hk ht
  obtain ⟨pn, rfl⟩ : ∃ pn : Nat, p = (pn : Int) := ⟨p.toNat, by omega⟩
  have HNm := Lib.hid (fun w => names_c 2 w)
  rw [show namesB 2 = true from rfl] at HNm
  have HZ : Hid (Blk (w.alloc (.cells #[.int .i64 2, .int .i64 n, .int .i64 (pn : Int), .int .i64 q, .string s, .slice A l.length c] 24)) w.heap.size 24 [.int .i64 2, .int .i64 n, .int .i64 (pn : Int), .int .i64 q, .string s, .slice A l.length c]) := Blk.new w _ _
  have HX0 : Hid (Ex w (w.alloc (.cells #[.int .i64 2, .int .i64 n, .int .i64 (pn : Int), .int .i64 q, .string s, .slice A l.length c] 24))) := (Ex.refl w).alloc _
  have hmk := mk8
  go_enter Tryz.func38, Tryz.ntmps38
  go_wp2_with fail
  refine (HNm.out _).mono ?_
  rintro e w1 ⟨rfl, hx1⟩
  have hx2 := ((Ex.refl (w.alloc (.cells #[.int .i64 2, .int .i64 n, .int .i64 (pn : Int), .int .i64 q, .string s, .slice A l.length c] 24))).alloc (.cells #[.bool false, .bool false, .bool false, .bool false, .bool false, .bool false, .bool false, .bool false] 4)).trans hx1
  have HB0 : Hid (Blk w1 (w.heap.size + 1) 4 (bl (fun _ => false))) := by
    rw [show bl (fun _ => false) = [.bool false, .bool false, .bool false, .bool false, .bool false, .bool false, .bool false, .bool false] from rfl]
    exact (Blk.new' _ (by simp) _ _).ex hx1
  have HZ1 := Lib.hid (HZ.out.ex hx2)
  have HX1 := Lib.hid (HX0.out.trans hx2)
  clear HZ HX0 hx1 hx2
  have HN : Hid (w.heap.size ≤ w.heap.size + 1 ∧ w.heap.size ≠ w.heap.size + 1) := ⟨by omega, by omega⟩
  have z0 : w1.cell? ⟨w.heap.size, 0, none⟩ = some (.int .i64 2) := HZ1.out.cell 0
  have z2 : w1.cell? ⟨w.heap.size, 2, none⟩ = some (.int .i64 (pn : Int)) := HZ1.out.cell 2
  have z3 : w1.cell? ⟨w.heap.size, 3, none⟩ = some (.int .i64 q) := HZ1.out.cell 3
  have z5 : w1.cell? ⟨w.heap.size, 5, none⟩ = some (.slice A l.length c) := HZ1.out.cell 5
  have zl := HZ1.out.lt
  have gl := HB0.out.lt
  generalize w.heap.size + 1 = nb at *
  have c1 : ∃ u, w1.cell? ⟨nb, pn, none⟩ = some u := ⟨_, by rw [HB0.out.cell, bl_get _ (by omega)]⟩
  obtain ⟨u1, c1⟩ := c1
  have f1 : w1.frozen? ⟨nb, pn, none⟩ = false := HB0.out.frozen _
  have HB1 := Lib.hid (HB0.out.set_ pn (.bool true))
  rw [bl_set] at HB1
  have HZ2 := Lib.hid (HZ1.out.far (p := ⟨nb, pn, none⟩) HN.out.2 (.bool true))
  have HX2 := Lib.hid (HX1.out.setCell (p := ⟨nb, pn, none⟩) HN.out.1 (.bool true))
  have y0 : (w1.setCell ⟨nb, pn, none⟩ (.bool true)).cell? ⟨w.heap.size, 0, none⟩ = some (.int .i64 2) := HZ2.out.cell 0
  have yl := HZ2.out.lt
  have HBf := HB1
  have HZf := HZ2
  have HXf := HX2
  have HF0 : Hid (∀ i, i < 8 → (fun i => if i = pn then true else false : Nat → Bool) i = memB (ownP 2 (pn : Int) q) i) := fun i _ => by unfold memB ownP; simp; by_cases h8 : i = pn <;> simp [h8] <;> omega
  clear HB0 HZ1 HX1 HB1 HZ2 HX2
  go_wp2_with fail
  generalize (w1.setCell ⟨nb, pn, none⟩ (.bool true)) = wz at *
  go_loopw [4] (fun i wr => ∃ j : Nat, i = .int .i64 j ∧ j ≤ l.length ∧ Hid (∃ f, Blk wr nb 4 (bl f) ∧ (∀ i, i < 8 → f i = memB (ownP 2 (pn : Int) q ++ ((l.take j).map prL).flatten) i) ∧ Blk wr w.heap.size 24 [.int .i64 2, .int .i64 n, .int .i64 (pn : Int), .int .i64 q, .string s, .slice A l.length c] ∧ Ex w wr)) (fun i _ => l.length - (intOf i).toNat)
  case atStart => exact ⟨0, rfl, Nat.zero_le _, Lib.hid ⟨_, HBf.out, fun i hi => by rw [HF0.out i hi]; simp, HZf.out, HXf.out⟩⟩
  case round =>
    obtain ⟨j, rfl, hj, HH⟩ := hrel
    obtain ⟨wo, rfl⟩ : ∃ wo : World, wo = wr := ⟨_, rfl⟩
    obtain ⟨f, hB, hf, hZ, hX⟩ := HH.out
    have r5 : wo.cell? ⟨w.heap.size, 5, none⟩ = some (.slice A l.length c) := hZ.cell 5
    have lz := hZ.lt
    have HS := Lib.hid (And.intro hB (And.intro hf (And.intro hZ hX)))
    clear hB hf hZ hX HH
    by_cases hlt : j < l.length
    · have m1 : (j : Int) < (l.length : Int) := by omega
      have m0 : (0 : Int) ≤ (j : Int) := by omega
      obtain ⟨x, hx⟩ := HG.out j hlt
      obtain ⟨b, o, k2, n2, p2, q2, s2, B, m2, c2, rfl, hb, h0, h1, h2, h3, h4, h5, htx⟩ := HK.out _ HS.out.2.2.2 j x hx
      have HCx := Lib.hid (HC.out j x hx wo k2 n2 p2 q2 s2 B m2 c2 htx)
      unfold MkR at HCx
      have HXj := Lib.hid hx
      clear htx hx
      go_wp2_with fail
      refine HCx.out.mono ?_
      rintro e w2 ⟨g2, rfl, hg2, hB2, hx2⟩
      have HS2 : Hid (Blk w2 nb 4 (bl f) ∧ Blk w2 g2 4 (bl (memB (prL x))) ∧ Blk w2 w.heap.size 24 [.int .i64 2, .int .i64 n, .int .i64 (pn : Int), .int .i64 q, .string s, .slice (some ⟨b, o, none⟩) l.length c] ∧ Ex w w2) := ⟨HS.out.1.ex hx2, hB2, HS.out.2.2.1.ex hx2, HS.out.2.2.2.trans hx2⟩
      have HNE : Hid (g2 ≠ nb ∧ w.heap.size ≠ nb ∧ w.heap.size ≤ nb) := ⟨by have := HS.out.1.lt; omega, HN.out.2, HN.out.1⟩
      clear hg2 hB2 hx2 h0 h1 h2 h3 h4 h5 r5 lz HCx hb
      go_wp2_with fail
      go_loopw [6] (fun kk wr => ∃ kq : Nat, kk = .int .i64 kq ∧ kq ≤ 8 ∧ Hid (Blk wr nb 4 (bl (fun i => f i || (decide (i < kq) && memB (prL x) i))) ∧ Blk wr g2 4 (bl (memB (prL x))) ∧ Blk wr w.heap.size 24 [.int .i64 2, .int .i64 n, .int .i64 (pn : Int), .int .i64 q, .string s, .slice (some ⟨b, o, none⟩) l.length c] ∧ Ex w wr)) (fun kk _ => 8 - (intOf kk).toNat)
      case atStart => exact ⟨0, rfl, by omega, Lib.hid ⟨by rw [bl_congr (g := f) (fun i _ => by simp)]; exact HS2.out.1, HS2.out.2⟩⟩
      case round =>
        obtain ⟨kk, rfl, hkk, HI⟩ := hrel
        by_cases hk8 : kk < 8
        · have n1 : (kk : Int) < 8 := by omega
          have n0 : (0 : Int) ≤ (kk : Int) := by omega
          have c1 : wr.cell? ⟨nb, kk, none⟩ = some (.bool (f kk)) := by rw [HI.out.1.cell, bl_get _ hk8]; simp
          have c2 : wr.cell? ⟨g2, kk, none⟩ = some (.bool (memB (prL x) kk)) := by rw [HI.out.2.1.cell, bl_get _ hk8]
          have f1 : wr.frozen? ⟨nb, kk, none⟩ = false := HI.out.1.frozen _
          have l1 := HI.out.1.lt
          have l2 := HI.out.2.1.lt
          have HE : Hid (∀ bb, bb = (f kk || memB (prL x) kk) → Blk (wr.setCell ⟨nb, kk, none⟩ (.bool bb)) nb 4 (bl (fun i => f i || (decide (i < kk + 1) && memB (prL x) i))) ∧ Blk (wr.setCell ⟨nb, kk, none⟩ (.bool bb)) g2 4 (bl (memB (prL x))) ∧ Blk (wr.setCell ⟨nb, kk, none⟩ (.bool bb)) w.heap.size 24 [.int .i64 2, .int .i64 n, .int .i64 (pn : Int), .int .i64 q, .string s, .slice (some ⟨b, o, none⟩) l.length c] ∧ Ex w (wr.setCell ⟨nb, kk, none⟩ (.bool bb))) := by
            rintro bb rfl
            have h9 := HI.out.1.set_ kk (.bool (f kk || memB (prL x) kk))
            rw [bl_set] at h9
            refine ⟨?_, HI.out.2.1.far HNE.out.1 _, HI.out.2.2.1.far HNE.out.2.1 _, HI.out.2.2.2.setCell HNE.out.2.2 _⟩
            rw [bl_congr (g := fun i => if i = kk then (f kk || memB (prL x) kk) else (f i || (decide (i < kk) && memB (prL x) i)))]
            · exact h9
            · intro i hi
              by_cases hik : i = kk
              · subst hik; simp
              · rw [if_neg hik]
                by_cases h8 : i < kk
                · rw [decide_eq_true h8, decide_eq_true (show i < kk + 1 by omega)]
                · rw [decide_eq_false h8, decide_eq_false (show ¬ i < kk + 1 by omega)]
          cases hfk : f kk with
          | true =>
            rw [hfk] at c1 HE
            clear hfk
            go_wp2_with fail
            exact ⟨⟨kk + 1, by go_num, by omega, Lib.hid (HE.out true (by simp))⟩, by simp [intOf]; omega⟩
          | false =>
            rw [hfk] at c1 HE
            clear hfk
            go_wp2_with fail
            exact ⟨⟨kk + 1, by go_num, by omega, Lib.hid (HE.out (memB (prL x) kk) (by simp))⟩, by simp [intOf]; omega⟩
        · obtain rfl : kk = 8 := by omega
          have hn8 : decide ((8 : Int) < 8) = false := by decide
          go_wp2_with fail
          refine ⟨⟨j + 1, by go_num, by omega, Lib.hid ⟨_, HI.out.1, fun i hi => ?_, HI.out.2.2.1, HI.out.2.2.2⟩⟩, by simp [intOf]; omega⟩
          rw [HS.out.2.1 i hi, flat_take l j x HXj.out, decide_eq_true hi]
          unfold memB
          rw [Bool.true_and, ← Bool.decide_or]
          simp [List.mem_append, or_assoc]
    · have hjl : j = l.length := by omega
      subst hjl
      have m1 : decide (((l.length : Nat) : Int) < (l.length : Int)) = false := decide_eq_false (by omega)
      have HE : Hid (Blk wo nb 4 (bl (memB (ownP 2 (pn : Int) q ++ (l.map prL).flatten))) ∧ Ex w wo) := by
        have h9 := HS.out.2.1
        rw [List.take_of_length_le (Nat.le_refl _)] at h9
        have h8 := HS.out.1
        rw [bl_congr h9] at h8
        exact ⟨h8, HS.out.2.2.2⟩
      clear hlt HS
      go_wp2_with fail
      go_ret
      exact ⟨nb, rfl, HN.out.1, HE.out⟩
set_option maxRecDepth 40000 in
set_option maxHeartbeats 3200000 in
theorem mark_3 (n p q : Int) (s : ByteArray) (A : Option Addr) (l : List Tr) (c : Nat) (w : World) (Q : Nat → Prop) (hl : l.length ≤ 1000000) (ht : TrC Q w (.node 3 n p q s l) (c6 3 n p q s A l.length c)) (hp0 : 0 ≤ p) (hp8 : p < 8)
    (HC : Hid (∀ (j : Nat) (x : Tr), l[j]? = some x → ∀ w' k n p q s A m c, TrC Q w' x (c6 k n p q s A m c) → Calls Tryz.prog 38 #[.agg #[.int .i64 k, .int .i64 n, .int .i64 p, .int .i64 q, .string s, .slice A m c]] w' (MkR w' (prL x)))) :
    Calls Tryz.prog 38 #[.agg #[.int .i64 3, .int .i64 n, .int .i64 p, .int .i64 q, .string s, .slice A l.length c]] w (MkR w (prL (.node 3 n p q s l))) := by
  obtain ⟨_, _, _, _, _, _, hk⟩ := ht.kids
  have HK := Lib.hid (fun w' (hx : Ex w w') j x (hj : l[j]? = some x) => (hk j x hj).ex hx)
  have HG : Hid (∀ j, j < l.length → ∃ x, l[j]? = some x) := fun j hj => ⟨_, List.getElem?_eq_getElem hj⟩
  have HPr := Lib.hid (pr_node 3 n p q s l)
  rw [HPr.out]
  clear HPr hk ht
  obtain ⟨pn, rfl⟩ : ∃ pn : Nat, p = (pn : Int) := ⟨p.toNat, by omega⟩
  have HNm := Lib.hid (fun w => names_c 3 w)
  rw [show namesB 3 = true from rfl] at HNm
  have HZ : Hid (Blk (w.alloc (.cells #[.int .i64 3, .int .i64 n, .int .i64 (pn : Int), .int .i64 q, .string s, .slice A l.length c] 24)) w.heap.size 24 [.int .i64 3, .int .i64 n, .int .i64 (pn : Int), .int .i64 q, .string s, .slice A l.length c]) := Blk.new w _ _
  have HX0 : Hid (Ex w (w.alloc (.cells #[.int .i64 3, .int .i64 n, .int .i64 (pn : Int), .int .i64 q, .string s, .slice A l.length c] 24))) := (Ex.refl w).alloc _
  have hmk := mk8
  go_enter Tryz.func38, Tryz.ntmps38
  go_wp2_with fail
  refine (HNm.out _).mono ?_
  rintro e w1 ⟨rfl, hx1⟩
  have hx2 := ((Ex.refl (w.alloc (.cells #[.int .i64 3, .int .i64 n, .int .i64 (pn : Int), .int .i64 q, .string s, .slice A l.length c] 24))).alloc (.cells #[.bool false, .bool false, .bool false, .bool false, .bool false, .bool false, .bool false, .bool false] 4)).trans hx1
  have HB0 : Hid (Blk w1 (w.heap.size + 1) 4 (bl (fun _ => false))) := by
    rw [show bl (fun _ => false) = [.bool false, .bool false, .bool false, .bool false, .bool false, .bool false, .bool false, .bool false] from rfl]
    exact (Blk.new' _ (by simp) _ _).ex hx1
  have HZ1 := Lib.hid (HZ.out.ex hx2)
  have HX1 := Lib.hid (HX0.out.trans hx2)
  clear HZ HX0 hx1 hx2
  have HN : Hid (w.heap.size ≤ w.heap.size + 1 ∧ w.heap.size ≠ w.heap.size + 1) := ⟨by omega, by omega⟩
  have z0 : w1.cell? ⟨w.heap.size, 0, none⟩ = some (.int .i64 3) := HZ1.out.cell 0
  have z2 : w1.cell? ⟨w.heap.size, 2, none⟩ = some (.int .i64 (pn : Int)) := HZ1.out.cell 2
  have z3 : w1.cell? ⟨w.heap.size, 3, none⟩ = some (.int .i64 q) := HZ1.out.cell 3
  have z5 : w1.cell? ⟨w.heap.size, 5, none⟩ = some (.slice A l.length c) := HZ1.out.cell 5
  have zl := HZ1.out.lt
  have gl := HB0.out.lt
  generalize w.heap.size + 1 = nb at *
  have c1 : ∃ u, w1.cell? ⟨nb, pn, none⟩ = some u := ⟨_, by rw [HB0.out.cell, bl_get _ (by omega)]⟩
  obtain ⟨u1, c1⟩ := c1
  have f1 : w1.frozen? ⟨nb, pn, none⟩ = false := HB0.out.frozen _
  have HB1 := Lib.hid (HB0.out.set_ pn (.bool true))
  rw [bl_set] at HB1
  have HZ2 := Lib.hid (HZ1.out.far (p := ⟨nb, pn, none⟩) HN.out.2 (.bool true))
  have HX2 := Lib.hid (HX1.out.setCell (p := ⟨nb, pn, none⟩) HN.out.1 (.bool true))
  have y0 : (w1.setCell ⟨nb, pn, none⟩ (.bool true)).cell? ⟨w.heap.size, 0, none⟩ = some (.int .i64 3) := HZ2.out.cell 0
  have yl := HZ2.out.lt
  have HBf := HB1
  have HZf := HZ2
  have HXf := HX2
  have HF0 : Hid (∀ i, i < 8 → (fun i => if i = pn then true else false : Nat → Bool) i = memB (ownP 3 (pn : Int) q) i) := fun i _ => by unfold memB ownP; simp; by_cases h8 : i = pn <;> simp [h8] <;> omega
  clear HB0 HZ1 HX1 HB1 HZ2 HX2
  go_wp2_with fail
  generalize (w1.setCell ⟨nb, pn, none⟩ (.bool true)) = wz at *
  go_loopw [4] (fun i wr => ∃ j : Nat, i = .int .i64 j ∧ j ≤ l.length ∧ Hid (∃ f, Blk wr nb 4 (bl f) ∧ (∀ i, i < 8 → f i = memB (ownP 3 (pn : Int) q ++ ((l.take j).map prL).flatten) i) ∧ Blk wr w.heap.size 24 [.int .i64 3, .int .i64 n, .int .i64 (pn : Int), .int .i64 q, .string s, .slice A l.length c] ∧ Ex w wr)) (fun i _ => l.length - (intOf i).toNat)
  case atStart => exact ⟨0, rfl, Nat.zero_le _, Lib.hid ⟨_, HBf.out, fun i hi => by rw [HF0.out i hi]; simp, HZf.out, HXf.out⟩⟩
  case round =>
    obtain ⟨j, rfl, hj, HH⟩ := hrel
    obtain ⟨wo, rfl⟩ : ∃ wo : World, wo = wr := ⟨_, rfl⟩
    obtain ⟨f, hB, hf, hZ, hX⟩ := HH.out
    have r5 : wo.cell? ⟨w.heap.size, 5, none⟩ = some (.slice A l.length c) := hZ.cell 5
    have lz := hZ.lt
    have HS := Lib.hid (And.intro hB (And.intro hf (And.intro hZ hX)))
    clear hB hf hZ hX HH
    by_cases hlt : j < l.length
    · have m1 : (j : Int) < (l.length : Int) := by omega
      have m0 : (0 : Int) ≤ (j : Int) := by omega
      obtain ⟨x, hx⟩ := HG.out j hlt
      obtain ⟨b, o, k2, n2, p2, q2, s2, B, m2, c2, rfl, hb, h0, h1, h2, h3, h4, h5, htx⟩ := HK.out _ HS.out.2.2.2 j x hx
      have HCx := Lib.hid (HC.out j x hx wo k2 n2 p2 q2 s2 B m2 c2 htx)
      unfold MkR at HCx
      have HXj := Lib.hid hx
      clear htx hx
      go_wp2_with fail
      refine HCx.out.mono ?_
      rintro e w2 ⟨g2, rfl, hg2, hB2, hx2⟩
      have HS2 : Hid (Blk w2 nb 4 (bl f) ∧ Blk w2 g2 4 (bl (memB (prL x))) ∧ Blk w2 w.heap.size 24 [.int .i64 3, .int .i64 n, .int .i64 (pn : Int), .int .i64 q, .string s, .slice (some ⟨b, o, none⟩) l.length c] ∧ Ex w w2) := ⟨HS.out.1.ex hx2, hB2, HS.out.2.2.1.ex hx2, HS.out.2.2.2.trans hx2⟩
      have HNE : Hid (g2 ≠ nb ∧ w.heap.size ≠ nb ∧ w.heap.size ≤ nb) := ⟨by have := HS.out.1.lt; omega, HN.out.2, HN.out.1⟩
      clear hg2 hB2 hx2 h0 h1 h2 h3 h4 h5 r5 lz HCx hb
      go_wp2_with fail
      go_loopw [6] (fun kk wr => ∃ kq : Nat, kk = .int .i64 kq ∧ kq ≤ 8 ∧ Hid (Blk wr nb 4 (bl (fun i => f i || (decide (i < kq) && memB (prL x) i))) ∧ Blk wr g2 4 (bl (memB (prL x))) ∧ Blk wr w.heap.size 24 [.int .i64 3, .int .i64 n, .int .i64 (pn : Int), .int .i64 q, .string s, .slice (some ⟨b, o, none⟩) l.length c] ∧ Ex w wr)) (fun kk _ => 8 - (intOf kk).toNat)
      case atStart => exact ⟨0, rfl, by omega, Lib.hid ⟨by rw [bl_congr (g := f) (fun i _ => by simp)]; exact HS2.out.1, HS2.out.2⟩⟩
      case round =>
        obtain ⟨kk, rfl, hkk, HI⟩ := hrel
        by_cases hk8 : kk < 8
        · have n1 : (kk : Int) < 8 := by omega
          have n0 : (0 : Int) ≤ (kk : Int) := by omega
          have c1 : wr.cell? ⟨nb, kk, none⟩ = some (.bool (f kk)) := by rw [HI.out.1.cell, bl_get _ hk8]; simp
          have c2 : wr.cell? ⟨g2, kk, none⟩ = some (.bool (memB (prL x) kk)) := by rw [HI.out.2.1.cell, bl_get _ hk8]
          have f1 : wr.frozen? ⟨nb, kk, none⟩ = false := HI.out.1.frozen _
          have l1 := HI.out.1.lt
          have l2 := HI.out.2.1.lt
          have HE : Hid (∀ bb, bb = (f kk || memB (prL x) kk) → Blk (wr.setCell ⟨nb, kk, none⟩ (.bool bb)) nb 4 (bl (fun i => f i || (decide (i < kk + 1) && memB (prL x) i))) ∧ Blk (wr.setCell ⟨nb, kk, none⟩ (.bool bb)) g2 4 (bl (memB (prL x))) ∧ Blk (wr.setCell ⟨nb, kk, none⟩ (.bool bb)) w.heap.size 24 [.int .i64 3, .int .i64 n, .int .i64 (pn : Int), .int .i64 q, .string s, .slice (some ⟨b, o, none⟩) l.length c] ∧ Ex w (wr.setCell ⟨nb, kk, none⟩ (.bool bb))) := by
            rintro bb rfl
            have h9 := HI.out.1.set_ kk (.bool (f kk || memB (prL x) kk))
            rw [bl_set] at h9
            refine ⟨?_, HI.out.2.1.far HNE.out.1 _, HI.out.2.2.1.far HNE.out.2.1 _, HI.out.2.2.2.setCell HNE.out.2.2 _⟩
            rw [bl_congr (g := fun i => if i = kk then (f kk || memB (prL x) kk) else (f i || (decide (i < kk) && memB (prL x) i)))]
            · exact h9
            · intro i hi
              by_cases hik : i = kk
              · subst hik; simp
              · rw [if_neg hik]
                by_cases h8 : i < kk
                · rw [decide_eq_true h8, decide_eq_true (show i < kk + 1 by omega)]
                · rw [decide_eq_false h8, decide_eq_false (show ¬ i < kk + 1 by omega)]
          cases hfk : f kk with
          | true =>
            rw [hfk] at c1 HE
            clear hfk
            go_wp2_with fail
            exact ⟨⟨kk + 1, by go_num, by omega, Lib.hid (HE.out true (by simp))⟩, by simp [intOf]; omega⟩
          | false =>
            rw [hfk] at c1 HE
            clear hfk
            go_wp2_with fail
            exact ⟨⟨kk + 1, by go_num, by omega, Lib.hid (HE.out (memB (prL x) kk) (by simp))⟩, by simp [intOf]; omega⟩
        · obtain rfl : kk = 8 := by omega
          have hn8 : decide ((8 : Int) < 8) = false := by decide
          go_wp2_with fail
          refine ⟨⟨j + 1, by go_num, by omega, Lib.hid ⟨_, HI.out.1, fun i hi => ?_, HI.out.2.2.1, HI.out.2.2.2⟩⟩, by simp [intOf]; omega⟩
          rw [HS.out.2.1 i hi, flat_take l j x HXj.out, decide_eq_true hi]
          unfold memB
          rw [Bool.true_and, ← Bool.decide_or]
          simp [List.mem_append, or_assoc]
    · have hjl : j = l.length := by omega
      subst hjl
      have m1 : decide (((l.length : Nat) : Int) < (l.length : Int)) = false := decide_eq_false (by omega)
      have HE : Hid (Blk wo nb 4 (bl (memB (ownP 3 (pn : Int) q ++ (l.map prL).flatten))) ∧ Ex w wo) := by
        have h9 := HS.out.2.1
        rw [List.take_of_length_le (Nat.le_refl _)] at h9
        have h8 := HS.out.1
        rw [bl_congr h9] at h8
        exact ⟨h8, HS.out.2.2.2⟩
      clear hlt HS
      go_wp2_with fail
      go_ret
      exact ⟨nb, rfl, HN.out.1, HE.out⟩
set_option maxRecDepth 40000 in
set_option maxHeartbeats 3200000 in
theorem mark_4 (n p q : Int) (s : ByteArray) (A : Option Addr) (l : List Tr) (c : Nat) (w : World) (Q : Nat → Prop) (hl : l.length ≤ 1000000) (ht : TrC Q w (.node 4 n p q s l) (c6 4 n p q s A l.length c)) (hp0 : 0 ≤ p) (hp8 : p < 8) (hq0 : 0 ≤ q) (hq8 : q < 8)
    (HC : Hid (∀ (j : Nat) (x : Tr), l[j]? = some x → ∀ w' k n p q s A m c, TrC Q w' x (c6 k n p q s A m c) → Calls Tryz.prog 38 #[.agg #[.int .i64 k, .int .i64 n, .int .i64 p, .int .i64 q, .string s, .slice A m c]] w' (MkR w' (prL x)))) :
    Calls Tryz.prog 38 #[.agg #[.int .i64 4, .int .i64 n, .int .i64 p, .int .i64 q, .string s, .slice A l.length c]] w (MkR w (prL (.node 4 n p q s l))) := by
  obtain ⟨_, _, _, _, _, _, hk⟩ := ht.kids
  have HK := Lib.hid (fun w' (hx : Ex w w') j x (hj : l[j]? = some x) => (hk j x hj).ex hx)
  have HG : Hid (∀ j, j < l.length → ∃ x, l[j]? = some x) := fun j hj => ⟨_, List.getElem?_eq_getElem hj⟩
  have HPr := Lib.hid (pr_node 4 n p q s l)
  rw [HPr.out]
  clear HPr hk ht
  obtain ⟨pn, rfl⟩ : ∃ pn : Nat, p = (pn : Int) := ⟨p.toNat, by omega⟩
  obtain ⟨qn, rfl⟩ : ∃ qn : Nat, q = (qn : Int) := ⟨q.toNat, by omega⟩
  have HNm := Lib.hid (fun w => names_c 4 w)
  rw [show namesB 4 = true from rfl] at HNm
  have HZ : Hid (Blk (w.alloc (.cells #[.int .i64 4, .int .i64 n, .int .i64 (pn : Int), .int .i64 (qn : Int), .string s, .slice A l.length c] 24)) w.heap.size 24 [.int .i64 4, .int .i64 n, .int .i64 (pn : Int), .int .i64 (qn : Int), .string s, .slice A l.length c]) := Blk.new w _ _
  have HX0 : Hid (Ex w (w.alloc (.cells #[.int .i64 4, .int .i64 n, .int .i64 (pn : Int), .int .i64 (qn : Int), .string s, .slice A l.length c] 24))) := (Ex.refl w).alloc _
  have hmk := mk8
  go_enter Tryz.func38, Tryz.ntmps38
  go_wp2_with fail
  refine (HNm.out _).mono ?_
  rintro e w1 ⟨rfl, hx1⟩
  have hx2 := ((Ex.refl (w.alloc (.cells #[.int .i64 4, .int .i64 n, .int .i64 (pn : Int), .int .i64 (qn : Int), .string s, .slice A l.length c] 24))).alloc (.cells #[.bool false, .bool false, .bool false, .bool false, .bool false, .bool false, .bool false, .bool false] 4)).trans hx1
  have HB0 : Hid (Blk w1 (w.heap.size + 1) 4 (bl (fun _ => false))) := by
    rw [show bl (fun _ => false) = [.bool false, .bool false, .bool false, .bool false, .bool false, .bool false, .bool false, .bool false] from rfl]
    exact (Blk.new' _ (by simp) _ _).ex hx1
  have HZ1 := Lib.hid (HZ.out.ex hx2)
  have HX1 := Lib.hid (HX0.out.trans hx2)
  clear HZ HX0 hx1 hx2
  have HN : Hid (w.heap.size ≤ w.heap.size + 1 ∧ w.heap.size ≠ w.heap.size + 1) := ⟨by omega, by omega⟩
  have z0 : w1.cell? ⟨w.heap.size, 0, none⟩ = some (.int .i64 4) := HZ1.out.cell 0
  have z2 : w1.cell? ⟨w.heap.size, 2, none⟩ = some (.int .i64 (pn : Int)) := HZ1.out.cell 2
  have z3 : w1.cell? ⟨w.heap.size, 3, none⟩ = some (.int .i64 (qn : Int)) := HZ1.out.cell 3
  have z5 : w1.cell? ⟨w.heap.size, 5, none⟩ = some (.slice A l.length c) := HZ1.out.cell 5
  have zl := HZ1.out.lt
  have gl := HB0.out.lt
  generalize w.heap.size + 1 = nb at *
  have c1 : ∃ u, w1.cell? ⟨nb, pn, none⟩ = some u := ⟨_, by rw [HB0.out.cell, bl_get _ (by omega)]⟩
  obtain ⟨u1, c1⟩ := c1
  have f1 : w1.frozen? ⟨nb, pn, none⟩ = false := HB0.out.frozen _
  have HB1 := Lib.hid (HB0.out.set_ pn (.bool true))
  rw [bl_set] at HB1
  have HZ2 := Lib.hid (HZ1.out.far (p := ⟨nb, pn, none⟩) HN.out.2 (.bool true))
  have HX2 := Lib.hid (HX1.out.setCell (p := ⟨nb, pn, none⟩) HN.out.1 (.bool true))
  have y0 : (w1.setCell ⟨nb, pn, none⟩ (.bool true)).cell? ⟨w.heap.size, 0, none⟩ = some (.int .i64 4) := HZ2.out.cell 0
  have yl := HZ2.out.lt
  have y3 : (w1.setCell ⟨nb, pn, none⟩ (.bool true)).cell? ⟨w.heap.size, 3, none⟩ = some (.int .i64 (qn : Int)) := HZ2.out.cell 3
  have c2 : ∃ u, (w1.setCell ⟨nb, pn, none⟩ (.bool true)).cell? ⟨nb, qn, none⟩ = some u := ⟨_, by rw [HB1.out.cell, bl_get _ (by omega)]⟩
  obtain ⟨u2, c2⟩ := c2
  have f2 : (w1.setCell ⟨nb, pn, none⟩ (.bool true)).frozen? ⟨nb, qn, none⟩ = false := HB1.out.frozen _
  have HB3 := Lib.hid (HB1.out.set_ qn (.bool true))
  rw [bl_set] at HB3
  have HZ3 := Lib.hid (HZ2.out.far (p := ⟨nb, qn, none⟩) HN.out.2 (.bool true))
  have HX3 := Lib.hid (HX2.out.setCell (p := ⟨nb, qn, none⟩) HN.out.1 (.bool true))
  have HBf := HB3
  have HZf := HZ3
  have HXf := HX3
  have HF0 : Hid (∀ i, i < 8 → (fun i => if i = qn then true else (if i = pn then true else false) : Nat → Bool) i = memB (ownP 4 (pn : Int) (qn : Int)) i) := fun i _ => by unfold memB ownP; simp; by_cases h7 : i = qn <;> by_cases h8 : i = pn <;> simp [h7, h8] <;> omega
  clear HB0 HZ1 HX1 HB1 HZ2 HX2 HB3 HZ3 HX3
  go_wp2_with fail
  generalize ((w1.setCell ⟨nb, pn, none⟩ (.bool true)).setCell ⟨nb, qn, none⟩ (.bool true)) = wz at *
  go_loopw [4] (fun i wr => ∃ j : Nat, i = .int .i64 j ∧ j ≤ l.length ∧ Hid (∃ f, Blk wr nb 4 (bl f) ∧ (∀ i, i < 8 → f i = memB (ownP 4 (pn : Int) (qn : Int) ++ ((l.take j).map prL).flatten) i) ∧ Blk wr w.heap.size 24 [.int .i64 4, .int .i64 n, .int .i64 (pn : Int), .int .i64 (qn : Int), .string s, .slice A l.length c] ∧ Ex w wr)) (fun i _ => l.length - (intOf i).toNat)
  case atStart => exact ⟨0, rfl, Nat.zero_le _, Lib.hid ⟨_, HBf.out, fun i hi => by rw [HF0.out i hi]; simp, HZf.out, HXf.out⟩⟩
  case round =>
    obtain ⟨j, rfl, hj, HH⟩ := hrel
    obtain ⟨wo, rfl⟩ : ∃ wo : World, wo = wr := ⟨_, rfl⟩
    obtain ⟨f, hB, hf, hZ, hX⟩ := HH.out
    have r5 : wo.cell? ⟨w.heap.size, 5, none⟩ = some (.slice A l.length c) := hZ.cell 5
    have lz := hZ.lt
    have HS := Lib.hid (And.intro hB (And.intro hf (And.intro hZ hX)))
    clear hB hf hZ hX HH
    by_cases hlt : j < l.length
    · have m1 : (j : Int) < (l.length : Int) := by omega
      have m0 : (0 : Int) ≤ (j : Int) := by omega
      obtain ⟨x, hx⟩ := HG.out j hlt
      obtain ⟨b, o, k2, n2, p2, q2, s2, B, m2, c2, rfl, hb, h0, h1, h2, h3, h4, h5, htx⟩ := HK.out _ HS.out.2.2.2 j x hx
      have HCx := Lib.hid (HC.out j x hx wo k2 n2 p2 q2 s2 B m2 c2 htx)
      unfold MkR at HCx
      have HXj := Lib.hid hx
      clear htx hx
      go_wp2_with fail
      refine HCx.out.mono ?_
      rintro e w2 ⟨g2, rfl, hg2, hB2, hx2⟩
      have HS2 : Hid (Blk w2 nb 4 (bl f) ∧ Blk w2 g2 4 (bl (memB (prL x))) ∧ Blk w2 w.heap.size 24 [.int .i64 4, .int .i64 n, .int .i64 (pn : Int), .int .i64 (qn : Int), .string s, .slice (some ⟨b, o, none⟩) l.length c] ∧ Ex w w2) := ⟨HS.out.1.ex hx2, hB2, HS.out.2.2.1.ex hx2, HS.out.2.2.2.trans hx2⟩
      have HNE : Hid (g2 ≠ nb ∧ w.heap.size ≠ nb ∧ w.heap.size ≤ nb) := ⟨by have := HS.out.1.lt; omega, HN.out.2, HN.out.1⟩
      clear hg2 hB2 hx2 h0 h1 h2 h3 h4 h5 r5 lz HCx hb
      go_wp2_with fail
      go_loopw [6] (fun kk wr => ∃ kq : Nat, kk = .int .i64 kq ∧ kq ≤ 8 ∧ Hid (Blk wr nb 4 (bl (fun i => f i || (decide (i < kq) && memB (prL x) i))) ∧ Blk wr g2 4 (bl (memB (prL x))) ∧ Blk wr w.heap.size 24 [.int .i64 4, .int .i64 n, .int .i64 (pn : Int), .int .i64 (qn : Int), .string s, .slice (some ⟨b, o, none⟩) l.length c] ∧ Ex w wr)) (fun kk _ => 8 - (intOf kk).toNat)
      case atStart => exact ⟨0, rfl, by omega, Lib.hid ⟨by rw [bl_congr (g := f) (fun i _ => by simp)]; exact HS2.out.1, HS2.out.2⟩⟩
      case round =>
        obtain ⟨kk, rfl, hkk, HI⟩ := hrel
        by_cases hk8 : kk < 8
        · have n1 : (kk : Int) < 8 := by omega
          have n0 : (0 : Int) ≤ (kk : Int) := by omega
          have c1 : wr.cell? ⟨nb, kk, none⟩ = some (.bool (f kk)) := by rw [HI.out.1.cell, bl_get _ hk8]; simp
          have c2 : wr.cell? ⟨g2, kk, none⟩ = some (.bool (memB (prL x) kk)) := by rw [HI.out.2.1.cell, bl_get _ hk8]
          have f1 : wr.frozen? ⟨nb, kk, none⟩ = false := HI.out.1.frozen _
          have l1 := HI.out.1.lt
          have l2 := HI.out.2.1.lt
          have HE : Hid (∀ bb, bb = (f kk || memB (prL x) kk) → Blk (wr.setCell ⟨nb, kk, none⟩ (.bool bb)) nb 4 (bl (fun i => f i || (decide (i < kk + 1) && memB (prL x) i))) ∧ Blk (wr.setCell ⟨nb, kk, none⟩ (.bool bb)) g2 4 (bl (memB (prL x))) ∧ Blk (wr.setCell ⟨nb, kk, none⟩ (.bool bb)) w.heap.size 24 [.int .i64 4, .int .i64 n, .int .i64 (pn : Int), .int .i64 (qn : Int), .string s, .slice (some ⟨b, o, none⟩) l.length c] ∧ Ex w (wr.setCell ⟨nb, kk, none⟩ (.bool bb))) := by
            rintro bb rfl
            have h9 := HI.out.1.set_ kk (.bool (f kk || memB (prL x) kk))
            rw [bl_set] at h9
            refine ⟨?_, HI.out.2.1.far HNE.out.1 _, HI.out.2.2.1.far HNE.out.2.1 _, HI.out.2.2.2.setCell HNE.out.2.2 _⟩
            rw [bl_congr (g := fun i => if i = kk then (f kk || memB (prL x) kk) else (f i || (decide (i < kk) && memB (prL x) i)))]
            · exact h9
            · intro i hi
              by_cases hik : i = kk
              · subst hik; simp
              · rw [if_neg hik]
                by_cases h8 : i < kk
                · rw [decide_eq_true h8, decide_eq_true (show i < kk + 1 by omega)]
                · rw [decide_eq_false h8, decide_eq_false (show ¬ i < kk + 1 by omega)]
          cases hfk : f kk with
          | true =>
            rw [hfk] at c1 HE
            clear hfk
            go_wp2_with fail
            exact ⟨⟨kk + 1, by go_num, by omega, Lib.hid (HE.out true (by simp))⟩, by simp [intOf]; omega⟩
          | false =>
            rw [hfk] at c1 HE
            clear hfk
            go_wp2_with fail
            exact ⟨⟨kk + 1, by go_num, by omega, Lib.hid (HE.out (memB (prL x) kk) (by simp))⟩, by simp [intOf]; omega⟩
        · obtain rfl : kk = 8 := by omega
          have hn8 : decide ((8 : Int) < 8) = false := by decide
          go_wp2_with fail
          refine ⟨⟨j + 1, by go_num, by omega, Lib.hid ⟨_, HI.out.1, fun i hi => ?_, HI.out.2.2.1, HI.out.2.2.2⟩⟩, by simp [intOf]; omega⟩
          rw [HS.out.2.1 i hi, flat_take l j x HXj.out, decide_eq_true hi]
          unfold memB
          rw [Bool.true_and, ← Bool.decide_or]
          simp [List.mem_append, or_assoc]
    · have hjl : j = l.length := by omega
      subst hjl
      have m1 : decide (((l.length : Nat) : Int) < (l.length : Int)) = false := decide_eq_false (by omega)
      have HE : Hid (Blk wo nb 4 (bl (memB (ownP 4 (pn : Int) (qn : Int) ++ (l.map prL).flatten))) ∧ Ex w wo) := by
        have h9 := HS.out.2.1
        rw [List.take_of_length_le (Nat.le_refl _)] at h9
        have h8 := HS.out.1
        rw [bl_congr h9] at h8
        exact ⟨h8, HS.out.2.2.2⟩
      clear hlt HS
      go_wp2_with fail
      go_ret
      exact ⟨nb, rfl, HN.out.1, HE.out⟩
theorem mark_c (t : Tr) : Okp t → ∀ (Q : Nat → Prop) (w : World) (k n p q : Int) (s : ByteArray) (A : Option Addr) (m c : Nat), t.size ≤ 1000000 → TrC Q w t (c6 k n p q s A m c) → Calls Tryz.prog 38 #[.agg #[.int .i64 k, .int .i64 n, .int .i64 p, .int .i64 q, .string s, .slice A m c]] w (MkR w (prL t)) := by
  induction t using Tr.induct with
  | h k1 n1 p1 q1 s1 l ih =>
    intro hok Q w k n p q s A m c hs ht
    have ht' := ht
    obtain ⟨rfl, rfl, rfl, rfl, rfl, rfl, -⟩ := ht.kids
    have hlen := Tr.len_le (l := l)
    rw [Tr.size_node] at hs
    cases hok with
    | node _ _ _ _ _ _ h1 h2 hkid =>
      have HC : Hid (∀ (j : Nat) (x : Tr), l[j]? = some x → ∀ w' k n p q s A m c, TrC Q w' x (c6 k n p q s A m c) → Calls Tryz.prog 38 #[.agg #[.int .i64 k, .int .i64 n, .int .i64 p, .int .i64 q, .string s, .slice A m c]] w' (MkR w' (prL x))) := fun j x hj w' k n p q s A m c htx =>
        ih x (List.mem_of_getElem? hj) (hkid x (List.mem_of_getElem? hj)) Q w' k n p q s A m c (by have := mem_le_sum (l.map Tr.size) x.size (List.mem_map.2 ⟨x, List.mem_of_getElem? hj, rfl⟩); omega) htx
      by_cases k2 : k = 2
      · subst k2; exact mark_2 n p q s A l c w Q (by omega) ht' (h1 (.inl rfl)).1 (h1 (.inl rfl)).2 HC
      by_cases k3 : k = 3
      · subst k3; exact mark_3 n p q s A l c w Q (by omega) ht' (h1 (.inr (.inl rfl))).1 (h1 (.inr (.inl rfl))).2 HC
      by_cases k4 : k = 4
      · subst k4; exact mark_4 n p q s A l c w Q (by omega) ht' (h1 (.inr (.inr rfl))).1 (h1 (.inr (.inr rfl))).2 (h2 rfl).1 (h2 rfl).2 HC
      exact mark_o k n p q s A l c w Q (by omega) ht' k2 k3 k4 HC
/-- a sorted list without repetitions -/
theorem asc_ext : ∀ {a b : List Int}, a.Pairwise (· < ·) → b.Pairwise (· < ·) → (∀ x, x ∈ a ↔ x ∈ b) → a = b
  | [], [], _, _, _ => rfl
  | [], y :: b, _, _, h => by have := (h y).2 (by simp); simp at this
  | x :: a, [], _, _, h => by have := (h x).1 (by simp); simp at this
  | x :: a, y :: b, ha, hb, h => by
    rw [List.pairwise_cons] at ha hb
    have e : x = y := by
      have h1 := (h x).1 (by simp)
      have h2 := (h y).2 (by simp)
      rw [List.mem_cons] at h1 h2
      rcases h1 with h1 | h1
      · exact h1
      · rcases h2 with h2 | h2
        · exact h2.symm
        · have := ha.1 _ h2
          have := hb.1 _ h1
          omega
    subst e
    rw [asc_ext ha.2 hb.2 fun z => ?_]
    constructor
    · intro hz
      have h1 := (h z).1 (List.mem_cons_of_mem _ hz)
      rw [List.mem_cons] at h1
      rcases h1 with rfl | h1
      · have := ha.1 _ hz; omega
      · exact h1
    · intro hz
      have h1 := (h z).2 (List.mem_cons_of_mem _ hz)
      rw [List.mem_cons] at h1
      rcases h1 with rfl | h1
      · have := hb.1 _ hz; omega
      · exact h1
theorem get_le {zs : List Int} (hs : zs.Pairwise (· ≤ ·)) {i j : Nat} (hij : i ≤ j) (hj : j < zs.length) : zs.toArray[i]! ≤ zs.toArray[j]! := by
  have hi : i < zs.length := by omega
  rw [getElem!_pos _ _ (by simpa using hi), getElem!_pos _ _ (by simpa using hj)]
  simp only [List.getElem_toArray]
  rcases Nat.lt_or_ge i j with h | h
  · exact List.pairwise_iff_getElem.1 hs i j hi hj h
  · obtain rfl : i = j := by omega
    exact Int.le_refl _
theorem compact_asc {zs : List Int} (hs : zs.Pairwise (· ≤ ·)) : (Lib.compact zs).Pairwise (· < ·) := by
  unfold Lib.compact Lib.compactUpTo
  rw [List.pairwise_map]
  have hr : ((List.range zs.length).filter (Lib.keeps zs.toArray)).Pairwise (· < ·) := List.Pairwise.filter _ List.pairwise_lt_range
  refine List.Pairwise.imp_of_mem ?_ hr
  intro i j hi hj hij
  rw [List.mem_filter, List.mem_range] at hi hj
  have h1 := get_le hs (i := i) (j := j - 1) (by omega) (by omega)
  have h2 := get_le hs (i := j - 1) (j := j) (by omega) hj.1
  have h3 := hj.2
  unfold Lib.keeps at h3
  rw [decide_eq_true_eq] at h3
  rcases h3 with h3 | h3
  · omega
  · omega
theorem mem_compact {zs : List Int} (x : Int) : x ∈ Lib.compact zs ↔ x ∈ zs := by
  unfold Lib.compact Lib.compactUpTo
  rw [List.mem_map]
  constructor
  · rintro ⟨i, hi, rfl⟩
    rw [List.mem_filter, List.mem_range] at hi
    rw [getElem!_pos _ _ (by simpa using hi.1)]
    simp
  · intro hx
    obtain ⟨j, hj, rfl⟩ := List.mem_iff_getElem.1 hx
    have key : ∀ j, (hj : j < zs.length) → ∃ i, i ∈ (List.range zs.length).filter (Lib.keeps zs.toArray) ∧ zs.toArray[i]! = zs[j] := by
      intro j
      induction j with
      | zero =>
        intro hj
        refine ⟨0, ?_, ?_⟩
        · rw [List.mem_filter, List.mem_range]; exact ⟨hj, by simp [Lib.keeps]⟩
        · rw [getElem!_pos _ _ (by simpa using hj)]; simp
      | succ j ih =>
        intro hj
        by_cases hk : Lib.keeps zs.toArray (j + 1) = true
        · refine ⟨j + 1, ?_, ?_⟩
          · rw [List.mem_filter, List.mem_range]; exact ⟨hj, hk⟩
          · rw [getElem!_pos _ _ (by simpa using hj)]; simp
        · obtain ⟨i, hi, he⟩ := ih (by omega)
          refine ⟨i, hi, ?_⟩
          unfold Lib.keeps at hk
          rw [decide_eq_true_eq] at hk
          have h1 : zs.toArray[j + 1]! = zs.toArray[j + 1 - 1]! := Classical.byContradiction fun h => hk (.inr h)
          rw [getElem!_pos _ _ (by simpa using hj), getElem!_pos _ _ (by simp; omega)] at h1
          simp only [List.getElem_toArray, Nat.add_sub_cancel] at h1
          rw [he, h1]
    exact key j hj
theorem sort_asc (zs : List Int) : (zs.mergeSort fun x y => decide (x ≤ y)).Pairwise (· ≤ ·) := by
  have h := List.pairwise_mergeSort (le := fun (x y : Int) => decide (x ≤ y)) (fun a b c h1 h2 => by simp only [decide_eq_true_eq] at *; omega) (fun a b => by simp only [Bool.or_eq_true, decide_eq_true_eq]; omega) zs
  exact h.imp fun h => by simpa using h
/-- the processes of a tree, in order, each once -/
def prF (S : List Int) : List Int := ((List.range 8).filter (memB S)).map (fun (i : Nat) => (i : Int))
theorem compact_pr (S : List Int) (h : ∀ x ∈ S, 0 ≤ x ∧ x < 8) : Lib.compact (S.mergeSort fun x y => decide (x ≤ y)) = prF S := by
  refine asc_ext (compact_asc (sort_asc _)) ?_ fun x => ?_
  · unfold prF
    rw [List.pairwise_map]
    have h1 : ((List.range 8).filter (memB S)).Pairwise (· < ·) := List.Pairwise.filter _ List.pairwise_lt_range
    exact h1.imp fun h => by omega
  · unfold prF memB
    rw [mem_compact, List.mem_mergeSort, List.mem_map]
    constructor
    · intro hx
      obtain ⟨h1, h2⟩ := h x hx
      refine ⟨x.toNat, List.mem_filter.2 ⟨List.mem_range.2 (by omega), ?_⟩, by omega⟩
      rw [decide_eq_true_eq, show ((x.toNat : Nat) : Int) = x by omega]
      exact hx
    · rintro ⟨y, hy, rfl⟩
      have := (List.mem_filter.1 hy).2
      rwa [decide_eq_true_eq] at this
theorem okp_of (t : Tr) : formedB nodeR t = true → Okp t ∧ ∀ x ∈ prL t, 0 ≤ x ∧ x < 8 := by
  induction t using Tr.induct with
  | h k n p q s l ih =>
    intro h
    rw [formed_node, Bool.and_eq_true, Bool.and_eq_true, Bool.not_eq_true', List.any_eq_false] at h
    obtain ⟨⟨hh, hr⟩, hk⟩ := h
    have hk' : ∀ x ∈ l, formedB nodeR x = true := fun x hx => by have := hk x hx; simpa using this
    have h1 : k = 2 ∨ k = 3 ∨ k = 4 → 0 ≤ p ∧ p < 8 := fun h => by
      have : procB p = true := by
        unfold nodeR at hr
        rcases h with h | h | h
        · rw [if_pos h] at hr; simp only [Bool.and_eq_true] at hr; exact hr.1.1
        · rw [if_neg (by omega), if_pos h] at hr; simp only [Bool.and_eq_true] at hr; exact hr.1.1
        · rw [if_neg (by omega), if_neg (by omega), if_pos h] at hr; simp only [Bool.and_eq_true] at hr; exact hr.1.1.1
      unfold procB at this
      simpa using this
    have h2 : k = 4 → 0 ≤ q ∧ q < 8 := fun h => by
      have : procB q = true := by
        unfold nodeR at hr
        rw [if_neg (by omega), if_neg (by omega), if_pos h] at hr; simp only [Bool.and_eq_true] at hr; exact hr.1.1.2
      unfold procB at this
      simpa using this
    refine ⟨.node k n p q s l h1 h2 (fun x hx => (ih x hx (hk' x hx)).1), fun x hx => ?_⟩
    rw [pr_node, List.mem_append] at hx
    rcases hx with hx | hx
    · unfold ownP at hx
      split at hx
      · rename_i h
        rw [List.mem_singleton.1 hx]; exact h1 (by omega)
      · split at hx
        · rename_i h
          simp only [List.mem_cons, List.not_mem_nil, or_false] at hx
          rcases hx with rfl | rfl
          · exact h1 (by omega)
          · exact h2 h
        · cases hx
    · rw [List.mem_flatten] at hx
      obtain ⟨L, hL, hx⟩ := hx
      obtain ⟨y, hy, rfl⟩ := List.mem_map.1 hL
      exact (ih y hy (hk' y hy)).2 x hx
/-- the slice v owns the numbers zs, from block base on -/
def Owns (w : World) (base : Nat) (v : Value) (zs : List Int) : Prop := w.ownsRow base 3 1 v zs.length (ints zs)
theorem Owns.ex {w w' : World} {base : Nat} {v : Value} {zs : List Int} (h : Owns w base v zs) (hx : Ex w w') : Owns w' base v zs := own_ex h hx
/-- sorting in place -/
theorem sort_c (base : Nat) (v : Value) (zs : List Int) (w : World) (ho : Owns w base v zs) (hl : zs.length ≤ 1000000) :
    Calls Tryz.prog 34 #[v] w (fun e w' => e = .returned (.tuple #[]) ∧ Owns w' base v (zs.mergeSort fun x y => decide (x ≤ y)) ∧ ∀ W0, Ex W0 w → W0.heap.size ≤ base → Ex W0 w') := by
  by_cases hv : v = .slice none 0 0
  · subst hv
    have h0 : zs = [] := by
      rcases ho.2 with ⟨-, e⟩ | ⟨g, cap, cur, e, -⟩
      · simpa [ints] using e
      · cases e
    subst h0
    refine (Tryz.slices_Sort_int_none none 0 w).mono ?_
    rintro e w' ⟨rfl, rfl⟩
    exact ⟨rfl, by simpa using ho, fun _ h _ => h⟩
  · obtain ⟨g, cap, rfl, hg, hlt, hcap, hmx, -, hH⟩ := Lib.holds_of_ownsRow (zs := zs) ho hv
    refine (Tryz.slices_Sort_int g 0 cap zs w hH hlt (by omega)).mono ?_
    rintro e w' ⟨rfl, q, os, rfl⟩
    have h1 := Lib.ownsRow_putRow (q := q) (k := zs.length) (ys := zs.mergeSort fun x y => decide (x ≤ y)) ho (by simp) (Nat.le_refl _)
    rw [List.take_of_length_le (by simp)] at h1
    have hgr : ∀ X : World, Ex X (Sort.grow X os) := fun X => Ex.of (Go.below_regrown X X.drawn os)
    refine ⟨rfl, ?_, fun W0 hx hb => ?_⟩
    · unfold Owns
      rw [List.length_mergeSort]
      exact own_ex h1 (hgr _)
    · exact Ex.trans (Ex.of (Lib.below_putRow hx.below (Nat.le_trans hb hg))) (hgr _)
/-- neighbours that are equal, but the first, go -/
theorem compact_c (base : Nat) (v : Value) (zs : List Int) (w : World) (ho : Owns w base v zs) (hl : zs.length ≤ 1000000) :
    Calls Tryz.prog 35 #[v] w (fun e w' => ∃ v', e = .returned v' ∧ Owns w' base v' (Lib.compact zs) ∧ ∀ W0, Ex W0 w → W0.heap.size ≤ base → Ex W0 w') := by
  by_cases hv : v = .slice none 0 0
  · subst hv
    have h0 : zs = [] := by
      rcases ho.2 with ⟨-, e⟩ | ⟨g, cap, cur, e, -⟩
      · simpa [ints] using e
      · cases e
    subst h0
    refine (Tryz.slices_Compact_int_empty none 0 w).mono ?_
    rintro e w' ⟨rfl, rfl⟩
    exact ⟨_, rfl, by simpa [Lib.compact, Lib.compactUpTo] using ho, fun _ h _ => h⟩
  · obtain ⟨g, cap, rfl, hg, hlt, hcap, hmx, -, hH⟩ := Lib.holds_of_ownsRow (zs := zs) ho hv
    have hle := Lib.compact_length_le zs
    refine (Tryz.slices_Compact_int g 0 cap zs w hH (by omega) hcap).mono ?_
    rintro e w' ⟨rfl, q, rfl⟩
    have h1 := Lib.ownsRow_putRow (q := q) (k := (Lib.compact zs).length) (ys := Lib.compact zs ++ List.replicate (zs.length - (Lib.compact zs).length) 0) ho (by simp; omega) hle
    rw [List.take_left] at h1
    exact ⟨_, rfl, h1, fun W0 hx hb => Ex.of (Lib.below_putRow hx.below (Nat.le_trans hb hg))⟩
/-- what a call keeps that keeps all worlds below a base -/
theorem keep_blk {w w' : World} {base : Nat} (h : ∀ W0, Ex W0 w → W0.heap.size ≤ base → Ex W0 w') (hb : base ≤ w.heap.size) {g t : Nat} {cs : List Value} (hB : Blk w g t cs) (hg : g < base) : Blk w' g t cs := by
  have hE : Ex { w with heap := w.heap.take base } w := Ex.of ⟨rfl, rfl, rfl, by simp; exact Nat.min_le_right _ _, fun i hi => by
    have h1 : i < base := by simp at hi; omega
    show w.heap[i]? = (w.heap.extract 0 base)[i]?
    rw [Array.getElem?_extract, if_pos (by omega)]
    simp⟩
  have hx := h _ hE (by simp; omega)
  refine Blk.ex ?_ hx
  unfold Blk
  have hB' := hB
  unfold Blk at hB'
  show (w.heap.extract 0 base)[g]? = _
  rw [Array.getElem?_extract, if_pos (by omega), Nat.zero_add]
  exact hB'
def ProcsR (w : World) (o : Option (List Int)) (e : Ending) (w' : World) : Prop := match o with
  | some L => ∃ v, e = .returned (.tuple #[v, .int .i64 0]) ∧ Owns w' w.heap.size v L ∧ Ex w w'
  | none => e = .returned (.tuple #[.slice none 0 0, .int .i64 1]) ∧ Ex w w'
set_option maxRecDepth 40000 in
set_option maxHeartbeats 3200000 in
theorem procs_no (t : Tr) (Q : Nat → Prop) (w : World) (k n p q : Int) (s : ByteArray) (A : Option Addr) (m c : Nat) (hs : t.size ≤ 1000000) (ht : TrC Q w t (c6 k n p q s A m c)) (hsm : smallB t = false) :
    Calls Tryz.prog 15 #[.agg #[.int .i64 k, .int .i64 n, .int .i64 p, .int .i64 q, .string s, .slice A m c]] w (ProcsR w none) := by
  have H1 := Lib.hid (fun w' (hx : Ex w w') => small_t t Q w' k n p q s A m c hs (ht.ex hx))
  rw [hsm] at H1
  clear ht hs hsm
  go_enter Tryz.func15, Tryz.ntmps15
  go_wp2_with fail
  refine (H1.out _ ((((Ex.refl _).alloc _).alloc _).alloc _)).mono ?_
  rintro e w' ⟨rfl, z, rfl⟩
  go_wp2_with fail
  go_ret2
  exact ⟨rfl, ((((Ex.refl _).alloc _).alloc _).alloc _).ext _⟩
set_option maxRecDepth 40000 in
set_option maxHeartbeats 3200000 in
theorem procs_yes (t : Tr) (Q : Nat → Prop) (w : World) (k n p q : Int) (s : ByteArray) (A : Option Addr) (m c : Nat) (hs : t.size ≤ 300) (hm : NmOk t) (ht : TrC Q w t (c6 k n p q s A m c)) (hsm : smallB t = true) :
    Calls Tryz.prog 15 #[.agg #[.int .i64 k, .int .i64 n, .int .i64 p, .int .i64 q, .string s, .slice A m c]] w (ProcsR w (if formedB nodeR t then some (Lib.compact ((prL t).mergeSort fun x y => decide (x ≤ y))) else none)) := by
  have hs0 : t.size ≤ 1000000 := by omega
  have H1 := Lib.hid (fun w' (hx : Ex w w') => small_t t Q w' k n p q s A m c hs0 (ht.ex hx))
  rw [hsm] at H1
  have H2 := Lib.hid (fun w' go gp (hp : PS w (w.heap.size + 1 + 1 + 1) go gp [] w') => formedP_c t.size t Q w (w.heap.size + 1 + 1 + 1) go gp [] w' k n p q s A m c (Nat.le_refl _) (by simp; omega) hm ht hp)
  unfold FR at H2
  have hpl := pr_le t
  have hSl : ((prL t).mergeSort fun x y => decide (x ≤ y)).length = (prL t).length := List.length_mergeSort _
  have H3 := Lib.hid (fun base v w' ho => sort_c base v (prL t) w' ho (by omega))
  have H4 := Lib.hid (fun base v w' ho => compact_c base v ((prL t).mergeSort fun x y => decide (x ≤ y)) w' ho (by omega))
  generalize ((prL t).mergeSort fun x y => decide (x ≤ y)) = SS at *
  generalize prL t = S at *
  generalize formedB nodeR t = B at *
  generalize hRO : (if B then some (Lib.compact SS) else none) = RO at *
  have HRO := Lib.hid hRO
  clear hRO

  clear ht hs hs0 hm hsm hpl hSl
  have HBx : Hid (Blk (((w.alloc (.cells #[.int .i64 k, .int .i64 n, .int .i64 p, .int .i64 q, .string s, .slice A m c] 24)).alloc (.cells #[.func (.func 29) #[] #[]] 47)).alloc (.cells #[.slice none 0 0] 29)) w.heap.size 24 (c6 k n p q s A m c)) := ((Blk.new w _ _).alloc _).alloc _
  have HP0 : Hid (Blk (((w.alloc (.cells #[.int .i64 k, .int .i64 n, .int .i64 p, .int .i64 q, .string s, .slice A m c] 24)).alloc (.cells #[.func (.func 29) #[] #[]] 47)).alloc (.cells #[.slice none 0 0] 29)) (w.heap.size + 1) 47 [.func (.func 29) #[] #[]]) := (Blk.new' _ (by simp) _ _).alloc _
  have HP1 : Hid (Blk (((w.alloc (.cells #[.int .i64 k, .int .i64 n, .int .i64 p, .int .i64 q, .string s, .slice A m c] 24)).alloc (.cells #[.func (.func 29) #[] #[]] 47)).alloc (.cells #[.slice none 0 0] 29)) (w.heap.size + 1 + 1) 29 [.slice none 0 0]) := (Blk.new' _ (by simp) _ _)
  go_enter Tryz.func15, Tryz.ntmps15
  go_wp2_with fail
  refine (H1.out _ ((((Ex.refl _).alloc _).alloc _).alloc _)).mono ?_
  rintro e w1 ⟨rfl, hx1⟩
  have HE1 : Hid (Ex w w1) := ((((Ex.refl w).alloc _).alloc _).alloc _).trans hx1
  have hPS : PS w (w.heap.size + 1 + 1 + 1) (w.heap.size + 1 + 1) (w.heap.size + 1) [] w1 :=
    ⟨HE1.out, by omega, by omega, by omega, by have := hx1.below.size; simp at this; omega, HP0.out.ex hx1, _, HP1.out.ex hx1, World.ownsRow_nil _ _ _ _⟩
  have HC := Lib.hid (H2.out _ _ _ hPS)
  have lb := (HBx.out.ex hx1).lt
  have b0 := (HBx.out.ex hx1).cell 0
  have b1 := (HBx.out.ex hx1).cell 1
  have b2 := (HBx.out.ex hx1).cell 2
  have b3 := (HBx.out.ex hx1).cell 3
  have b4 := (HBx.out.ex hx1).cell 4
  have b5 := (HBx.out.ex hx1).cell 5
  simp only [List.getElem?_cons_zero, List.getElem?_cons_succ] at b0 b1 b2 b3 b4 b5
  clear hPS hx1 HP0 HP1 H2 H1 HBx
  have HBa : Hid (w.heap.size ≤ w.heap.size + 1 + 1 + 1 ∧ w.heap.size + 1 + 1 < w.heap.size + 1 + 1 + 1) := ⟨by omega, by omega⟩
  go_wp2_with fail
  generalize w.heap.size + 1 + 1 + 1 = ba at *
  generalize w.heap.size + 1 + 1 = go at *
  generalize w.heap.size + 1 = gp at *
  refine HC.out.mono ?_
  rintro e w2 ⟨rfl, acc', hps, -, hL⟩
  cases B with
  | false =>
    have HX := Lib.hid hps.ex
    clear hps hL
    rw [if_neg (by simp)] at HRO
    go_wp2_with fail
    go_ret2
    rw [← HRO.out]
    exact ⟨rfl, HX.out⟩
  | true =>
    rw [if_pos rfl] at HRO
    have ha := hL (by simp)
    rw [List.nil_append] at ha
    subst ha
    obtain ⟨v, hBv, hov⟩ := hps.out
    have q0 : w2.cell? ⟨go, 0, none⟩ = some v := hBv.cell 0
    have q1 := hBv.lt
    have HX := Lib.hid (And.intro hps (And.intro hBv hov))
    have HC3 := Lib.hid (H3.out ba v w2 (by unfold Owns; rw [← ints_len]; exact hov))
    clear hps hBv hov hL
    go_wp2_with fail
    refine HC3.out.mono ?_
    rintro e w3 ⟨rfl, ho3, hk3⟩
    have hB3 := keep_blk hk3 HX.out.1.bs HX.out.2.1 HBa.out.2
    have q0 : w3.cell? ⟨go, 0, none⟩ = some v := hB3.cell 0
    have q1 := hB3.lt
    have HX3 := Lib.hid (hk3 w HX.out.1.ex HBa.out.1)
    have HC4 := Lib.hid (H4.out ba v w3 ho3)
    clear ho3 hk3 hB3
    go_wp2_with fail
    refine HC4.out.mono ?_
    rintro e w4 ⟨v4, rfl, ho4, hk4⟩
    have HX4 := Lib.hid (And.intro (hk4 w HX3.out HBa.out.1) ho4)
    clear hk4 ho4
    go_wp2_with fail
    go_ret2
    rw [← HRO.out]
    exact ⟨v4, rfl, own_base HX4.out.2 HBa.out.1, HX4.out.1⟩
theorem procs_c (t : Tr) (Q : Nat → Prop) (w : World) (k n p q : Int) (s : ByteArray) (A : Option Addr) (m c : Nat) (hs : t.size ≤ 300) (hm : NmOk t) (ht : TrC Q w t (c6 k n p q s A m c)) :
    Calls Tryz.prog 15 #[.agg #[.int .i64 k, .int .i64 n, .int .i64 p, .int .i64 q, .string s, .slice A m c]] w (ProcsR w (if smallB t && formedB nodeR t then some (prF (prL t)) else none)) := by
  cases hsm : smallB t with
  | false => exact procs_no t Q w k n p q s A m c (by omega) ht hsm
  | true =>
    have h := procs_yes t Q w k n p q s A m c hs hm ht hsm
    cases hf : formedB nodeR t with
    | false => rw [hf] at h; exact h
    | true => rw [hf] at h; rw [if_pos rfl, compact_pr _ (okp_of t hf).2] at h; exact h
set_option maxRecDepth 40000 in
set_option maxHeartbeats 3200000 in
theorem rProcs_c (t : Tr) (Q : Nat → Prop) (w : World) (k n p q : Int) (s : ByteArray) (A : Option Addr) (m c : Nat) (hs : t.size ≤ 1000000) (hok : Okp t) (ht : TrC Q w t (c6 k n p q s A m c)) :
    Calls Tryz.prog 18 #[.agg #[.int .i64 k, .int .i64 n, .int .i64 p, .int .i64 q, .string s, .slice A m c]] w (fun e w' => ∃ v, e = .returned v ∧ Owns w' w.heap.size v (prF (prL t)) ∧ Ex w w') := by
  have H1 := Lib.hid (fun w' (hx : Ex w w') => mark_c t hok Q w' k n p q s A m c hs (ht.ex hx))
  unfold MkR at H1
  clear hs hok ht
  have HF : Hid (∀ k, k < 8 → ((List.range (k + 1)).filter (memB (prL t))).map (fun (i : Nat) => (i : Int)) = ((List.range k).filter (memB (prL t))).map (fun (i : Nat) => (i : Int)) ++ if memB (prL t) k then [(k : Int)] else []) := fun k _ => by
    rw [List.range_succ, List.filter_append, List.map_append]
    cases hm : memB (prL t) k <;> simp [hm]
  have HL : Hid (∀ k, (((List.range k).filter (memB (prL t))).map (fun (i : Nat) => (i : Int))).length ≤ k) := fun k => by
    have := List.length_filter_le (memB (prL t)) (List.range k)
    simpa using this
  unfold prF
  generalize hM : memB (prL t) = M at *
  clear hM
  obtain ⟨i0, hi, hz0, hz1, hz2⟩ := info_parts infoInt
  go_enter Tryz.func18, Tryz.ntmps18
  go_wp2_with fail
  refine (H1.out _ ((Ex.refl _).alloc _)).mono ?_
  rintro e w1 ⟨g, rfl, hg, hB, hx⟩
  have HB := Lib.hid hB
  have HX := Lib.hid (((Ex.refl w).alloc _).trans hx)
  clear hg hB hx
  go_wp2_with fail
  go_loopw [4, 5] (fun v i wr => ∃ k : Nat, i = .int .i64 k ∧ k ≤ 8 ∧ Hid (wr.ownsRow w1.heap.size 3 1 v (ints (((List.range k).filter M).map (fun (i : Nat) => (i : Int)))).length (ints (((List.range k).filter M).map (fun (i : Nat) => (i : Int)))) ∧ Ex w1 wr)) (fun _ i _ => 8 - (intOf i).toNat)
  case atStart => exact ⟨0, rfl, by omega, Lib.hid ⟨by simpa [ints] using World.ownsRow_nil _ _ _ _, Ex.refl _⟩⟩
  case round =>
    obtain ⟨k, rfl, hk, HH⟩ := hrel
    by_cases hlt : k < 8
    · have n1 : (k : Int) < 8 := by omega
      have n0 : (0 : Int) ≤ (k : Int) := by omega
      have hb := HB.out.ex HH.out.2
      have cc1 : wr.cell? ⟨g, k, none⟩ = some (.bool (M k)) := by rw [hb.cell, bl_get _ hlt]
      have l1 := hb.lt
      have HFk := HF.out k hlt
      have Hk8 := Lib.hid (HL.out k)
      clear hb
      cases hMk : M k with
      | false =>
        rw [hMk] at cc1 HFk
        have HFk2 := Lib.hid HFk
        clear hMk HFk
        go_wp2_with fail
        refine ⟨⟨k + 1, by go_num, by omega, Lib.hid ⟨?_, HH.out.2⟩⟩, by simp [intOf]; omega⟩
        rw [HFk2.out]
        simpa using HH.out.1
      | true =>
        rw [hMk] at cc1 HFk
        have HFk2 := Lib.hid HFk
        clear hMk HFk
        have HOW := HH.out.1.alloc (.cells #[.int .i64 (k : Int)] 3)
        have HNL : (ints (((List.range k).filter M).map (fun (i : Nat) => (i : Int)))).length ≤ 1000000 := by rw [ints_len]; have := Hk8.out; omega
        obtain ⟨ZZ, hZZ⟩ : ∃ ZZ, ints (((List.range k).filter M).map (fun (i : Nat) => (i : Int))) = ZZ := ⟨_, rfl⟩
        rw [hZZ] at HOW HNL
        have HZZ := Lib.hid hZZ
        have HOW2 := Lib.hid HOW
        clear hZZ HOW
        go_wp2_with (at_builtin; refine wpList_append_own _ rfl _ _ 29 rfl w1.heap.size 3 i0 (.int .i64 0) 1 8 Tryz.underlying29 hi hz0 hz1 hz2 rfl (by decide) _ _ _ rfl HOW2.out ⟨wr.heap.size, 0, none⟩ 1 1 [.int .i64 k] rfl rfl ?c1 ?c2 ?c3 ?c4 ?c5 ?_)
        try case c1 => exact cells_new _ _ _
        try case c2 => first | rfl | (intro u hu; simp at hu; subst hu; rfl)
        try case c3 => unfold maxLen; omega
        try case c4 => omega
        try case c5 => first | (have := HH.out.2.below.size; omega) | (have := HH.out.2.below.size; simp; omega)
        intro v' w2 hown2 hgr _
        have HX2 : Hid (Ex w1 w2) := (HH.out.2.alloc _).grown hgr (fun b hb => (HOW2.out.lt b hb).1)
        have HO2 := Lib.hid hown2
        clear hown2 hgr
        go_wp2_with fail
        refine ⟨⟨k + 1, by go_num, by omega, Lib.hid ⟨?_, HX2.out⟩⟩, by simp [intOf]; omega⟩
        rw [HFk2.out, if_pos (by simp), ints_app, List.length_append, HZZ.out]
        exact HO2.out
    · obtain rfl : k = 8 := by omega
      have hn8 : decide ((8 : Int) < 8) = false := by decide
      go_wp2_with fail
      go_ret
      refine ⟨_, rfl, ?_, HX.out.trans HH.out.2⟩
      unfold Owns
      have h9 := HH.out.1
      rw [ints_len] at h9
      exact own_base h9 HX.out.below.size
end Go.Proofs.YthjalkonlcjhnaaGreatDoor
