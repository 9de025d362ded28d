/-
  The search's function follow, walked. The interval of an event, and the two tests of the search for zigzag paths, walked. The search for zigzag paths, walked.
  Conditions: as each theorem says.
-/
import Derived.Test.YtdenojfbdkdpiaaYk
import Derived.Test.YtdenojfbdkdpiaaYh
import Derived.Deep.RegionHeld3
namespace Go.Proofs.Ytdenojfbdkdpiaa
section
open Go.RowKit Go.Shelf
/-- what is kept but the queue's cell and rows of messages -/
structure Kz (gq : Nat) (a b : World) : Prop where
  size : a.heap.size ≤ b.heap.size
  blk : ∀ i t cs, Blk a i t cs → t ≠ 109 → i ≠ gq → Blk b i t cs
theorem Kz.refl (gq : Nat) (w : World) : Kz gq w w := ⟨Nat.le_refl _, fun _ _ _ h _ _ => h⟩
theorem Kz.trans {gq : Nat} {a b c : World} (h : Kz gq a b) (k : Kz gq b c) : Kz gq a c := ⟨Nat.le_trans h.size k.size, fun i t cs hB ht hg => k.blk i t cs (h.blk i t cs hB ht hg) ht hg⟩
theorem Kz.of {gq : Nat} {a b : World} (h : Ex a b) : Kz gq a b := ⟨h.below.size, fun _ _ _ hB _ _ => hB.ex h⟩
theorem Kz.set {gq : Nat} {a b : World} (h : Kz gq a b) (j : Nat) (u : Value) : Kz gq a (b.setCell ⟨gq, j, none⟩ u) :=
  ⟨by rw [World.size_setCell]; exact h.size, fun i t cs hB ht hg => (h.blk i t cs hB ht hg).far (p := ⟨gq, j, none⟩) hg u⟩
theorem Kz.grown {gq : Nat} {a b c : World} {row : Option Nat} (h : Kz gq a b) (hg : b.grownBy c row) (hne : ∀ i t cs, Blk b i t cs → t ≠ 109 → some i ≠ row) : Kz gq a c :=
  ⟨Nat.le_trans h.size hg.size, fun i t cs hB ht hi => by
    have := h.blk i t cs hB ht hi
    exact (hg.block i this.lt (hne i t cs this ht)).trans this⟩
theorem SeenZ.isMap {w : World} {b n : Nat} {s : List Msg} (h : SeenZ w b n s) : ∃ es clock, w.heap[b]? = some (.map es clock) := by
  obtain ⟨D, ⟨es, clock, h1, -⟩, -⟩ := h
  exact ⟨_, _, h1⟩
theorem Blk.noZ {w : World} {g t : Nat} {cs : List Value} (h : Blk w g t cs) {b k : Nat} {s : List Msg} (hm : SeenZ w b k s) : g ≠ b := by
  obtain ⟨es, clock, hb⟩ := hm.isMap
  rintro rfl
  unfold Blk at h
  rw [hb] at h
  cases h
theorem OwnO.noZ {w : World} {base : Nat} {e : TypeId} {size : Nat} {v : Value} {n : Nat} {xs : List Value} (h : OwnO w base e size v n xs) {b k : Nat} {s : List Msg} (hm : SeenZ w b k s) : some b ≠ v.ownBlock := by
  obtain ⟨es, clock, hb⟩ := hm.isMap
  rcases h.2 with ⟨rfl, _⟩ | ⟨g, o, cap, cur, rfl, -, hgg, _⟩
  · simp [Value.ownBlock]
  · intro he
    simp only [Value.ownBlock, Option.some.injEq] at he
    subst he
    rw [hb] at hgg
    cases hgg
/-- the search's memory: the map of the seen ones, the queue -/
structure Fs (w0 : World) (base gq gb : Nat) (S Q : List Msg) (A : Option Addr) (c : Nat) (w : World) : Prop where
  ex : Ex w0 w
  seen : SeenZ w gb S.length S
  cell : Blk w gq 86 [.slice A Q.length c]
  own : OwnO w base 109 4 (.slice A Q.length c) Q.length (msgCs Q)
  hb : w0.heap.size ≤ base ∧ w0.heap.size ≤ gq ∧ w0.heap.size ≤ gb ∧ base ≤ w.heap.size
theorem Fs.exk {w0 : World} {base gq gb : Nat} {S Q : List Msg} {A : Option Addr} {c : Nat} {w w' : World} (h : Fs w0 base gq gb S Q A c w) (hx : Ex w w') : Fs w0 base gq gb S Q A c w' :=
  ⟨h.ex.trans hx, h.seen.ex hx, h.cell.ex hx, h.own.ex hx, h.hb.1, h.hb.2.1, h.hb.2.2.1, Nat.le_trans h.hb.2.2.2 hx.below.size⟩
theorem Fs.put {w0 : World} {base gq gb : Nat} {S Q : List Msg} {A : Option Addr} {c : Nat} {w w' : World} {m : Msg} (h : Fs w0 base gq gb S Q A c w) (hS : SeenZ w' gb (S.length + 1) (m :: S)) (hg : w.grownBy w' (some gb)) : Fs w0 base gq gb (m :: S) Q A c w' :=
  ⟨h.ex.grown hg (fun k hk => by cases hk; exact h.hb.2.2.1), hS, h.cell.grown hg (fun he => (h.cell.noZ h.seen) (Option.some.inj he)), h.own.kept hg (.inr fun he => h.own.noZ h.seen he.symm), h.hb.1, h.hb.2.1, h.hb.2.2.1, Nat.le_trans h.hb.2.2.2 hg.size⟩
theorem Fs.put_k {w0 : World} {base gq gb : Nat} {S Q : List Msg} {A : Option Addr} {c : Nat} {w w' : World} (h : Fs w0 base gq gb S Q A c w) (hg : w.grownBy w' (some gb)) : Kz gq w w' :=
  (Kz.refl gq w).grown hg fun _ _ _ hB _ he => (hB.noZ h.seen) (Option.some.inj he)
/-- the queue grows by one -/
theorem Fs.push {w0 : World} {base gq gb : Nat} {S Q : List Msg} {A A' : Option Addr} {c c' : Nat} {w w' : World} {m : Msg} (h : Fs w0 base gq gb S Q A c w) (hg : w.grownBy w' (Value.slice A Q.length c).ownBlock) (ho : OwnO w' base 109 4 (.slice A' (Q.length + 1) c') (Q.length + 1) (msgCs (Q ++ [m]))) :
    Blk w' gq 86 [.slice A Q.length c] ∧ Fs w0 base gq gb S (Q ++ [m]) A' c' (w'.setCell ⟨gq, 0, none⟩ (.slice A' (Q.length + 1) c')) ∧ Kz gq w (w'.setCell ⟨gq, 0, none⟩ (.slice A' (Q.length + 1) c')) := by
  have h1 := h.cell.grown hg (h.own.ne h.cell (by decide))
  have hx : Ex w0 w' := h.ex.grown hg fun k hk => Nat.le_trans h.hb.1 (h.own.lt k hk).1
  have hlen : (Q ++ [m]).length = Q.length + 1 := by simp
  have hs : SeenZ w' gb S.length S := h.seen.kept hg (h.own.noZ h.seen)
  refine ⟨h1, ⟨hx.setCell (p := ⟨gq, 0, none⟩) h.hb.2.1 _, ?_, by rw [hlen]; exact h1.set_ 0 _, by rw [hlen]; exact ho.set_ (p := ⟨gq, 0, none⟩) (fun he => (ho.ne h1 (by decide)) he.symm) _, h.hb.1, h.hb.2.1, h.hb.2.2.1, by rw [World.size_setCell]; exact Nat.le_trans h.hb.2.2.2 hg.size⟩, Kz.set ((Kz.refl gq w).grown hg fun _ _ _ hB ht => h.own.ne hB ht) 0 _⟩
  refine hs.keep ?_
  have hne : gb ≠ gq := fun he => (h1.noZ hs) he.symm
  exact (Below.heap_setCell w' ⟨gq, 0, none⟩ _ gb hne).symm
theorem row_cell {w : World} {A : Option Addr} {M : List Msg} (h : Row w A (msgCs M)) {i : Nat} {m : Msg} (hm : M[i]? = some m) : ∃ b o, A = some ⟨b, o, none⟩ ∧ b < w.heap.size ∧ w.cell? ⟨b, o + i * 4, none⟩ = some (.int .i64 (m.1.1 : Nat)) ∧ w.cell? ⟨b, o + i * 4 + 1, none⟩ = some (.int .i64 (m.1.2 : Nat)) ∧ w.cell? ⟨b, o + i * 4 + 2, none⟩ = some (.int .i64 (m.2.1 : Nat)) ∧ w.cell? ⟨b, o + i * 4 + 3, none⟩ = some (.int .i64 (m.2.2 : Nat)) := by
  obtain ⟨h0, h1, h2, h3⟩ := msg_cells hm
  rcases h with h | ⟨b, o, e, hb, h⟩
  · rw [h] at h0; simp at h0
  · exact ⟨b, o, e, hb, h _ _ h0, by rw [Nat.add_assoc]; exact h _ _ h1, by rw [Nat.add_assoc]; exact h _ _ h2, by rw [Nat.add_assoc]; exact h _ _ h3⟩
set_option maxRecDepth 20000 in
set_option maxHeartbeats 3200000 in
theorem follow_c {N : FuncId} {caps : Array Value} {fits : Msg → Bool} (hcall : ∀ (args : Array Value) (w : World), Sem.run Try.prog (callFunc N args) w = .ok (.enter N args) w) (M : List Msg) (MA : Option Addr) (mc ga gs gq gb base : Nat) (S Q : List Msg) (A : Option Addr) (c : Nat) (w0 w : World) (hM : Row w0 MA (msgCs M)) (hml : M.length ≤ 100000) (hmf : ∀ m, m ∈ M → FitM m)
    (hBa : Blk w ga 86 [.slice MA M.length mc]) (hBs : Blk w gs 106 [.map (some gb)]) (hgq : ga ≠ gq ∧ gs ≠ gq) (hF : Fs w0 base gq gb S Q A c w) (hsl : S.length ≤ 100000) (hql : Q.length ≤ 100000)
    (hfit : ∀ m, m ∈ M → ∀ w', Ex w0 w' → Kz gq w w' → Calls Try.prog N (#[msgV m] ++ caps) w' (Ret w' (.bool (fits m)))) :
    Calls Try.prog 83 #[.func (.func N) #[] caps, .pointer (some ⟨ga, 0, none⟩), .pointer (some ⟨gs, 0, none⟩), .pointer (some ⟨gq, 0, none⟩)] w (fun e w' => e = .returned (.tuple #[]) ∧ ∃ D A' c', Flw fits M S D ∧ Fs w0 base gq gb (D.reverse ++ S) (Q ++ D) A' c' w' ∧ Kz gq w w') := by
  obtain ⟨i0, hi0, hz0, hz1, hz2⟩ := info_parts infoMsg
  have HM := Lib.hid hM
  have HMf := Lib.hid hmf
  have HBa : Hid (∀ w', Kz gq w w' → Blk w' ga 86 [.slice MA M.length mc]) := fun w' k => k.blk _ _ _ hBa (by decide) hgq.1
  have HBs : Hid (∀ w', Kz gq w w' → Blk w' gs 106 [.map (some gb)]) := fun w' k => k.blk _ _ _ hBs (by decide) hgq.2
  have HFit := Lib.hid hfit
  have HF := Lib.hid hF
  have x0 := hBa.cell 0
  have l0 := hBa.lt
  clear hM hmf hBa hBs hgq hF hfit
  go_enter Try.func83, Try.ntmps83
  go_wp2_with fail
  clear x0 l0
  go_loopw [9] (fun k wr => ∃ (i : Nat) (D : List Msg) (A' : Option Addr) (c' : Nat), k = .int .i64 i ∧ i ≤ M.length ∧ D.length ≤ i ∧ Hid (Flw fits (M.take i) S D ∧ Fs w0 base gq gb (D.reverse ++ S) (Q ++ D) A' c' wr ∧ Kz gq w wr)) (fun k _ => M.length - (intOf k).toNat)
  case atStart => exact ⟨0, [], A, c, rfl, Nat.zero_le _, Nat.le_refl _, Lib.hid ⟨Flw.zero _ _, by simpa using HF.out, Kz.refl _ _⟩⟩
  case round =>
    obtain ⟨i, D, A2, c2, rfl, hi, hD, HH⟩ := hrel
    by_cases hil : i < M.length
    · have m0 : (0 : Int) ≤ (i : Int) := by omega
      have m1 : (i : Int) < (M.length : Int) := by omega
      obtain ⟨m, hm⟩ := get_at hil
      have hmm := List.mem_of_getElem? hm
      have HTk := Lib.hid (take_snoc hm)
      obtain ⟨b, o, hA, hbl0, v0, v1, v2, v3⟩ := row_cell (HM.out.ex HH.out.2.1.ex) hm
      subst hA
      have hmF := HMf.out m hmm
      have hX1 : Ex wr (wr.alloc (.cells #[.int .i64 (m.1.1 : Nat), .int .i64 (m.1.2 : Nat), .int .i64 (m.2.1 : Nat), .int .i64 (m.2.2 : Nat)] 109)) := (Ex.refl _).alloc _
      have hB1 : Blk (wr.alloc (.cells #[.int .i64 (m.1.1 : Nat), .int .i64 (m.1.2 : Nat), .int .i64 (m.2.1 : Nat), .int .i64 (m.2.2 : Nat)] 109)) wr.heap.size 109 [.int .i64 (m.1.1 : Nat), .int .i64 (m.1.2 : Nat), .int .i64 (m.2.1 : Nat), .int .i64 (m.2.2 : Nat)] := Blk.new wr _ _
      have hF1 := HH.out.2.1.exk hX1
      have hK1 := HH.out.2.2.trans (Kz.of hX1)
      have hlk := hF1.seen.look hmF
      have hS1 := HBs.out _ hK1
      have HF1 := Lib.hid hF1
      have HK1 := Lib.hid hK1
      have HB1 := Lib.hid hB1
      have HFt := Lib.hid (HFit.out m hmm)
      have HmF := Lib.hid hmF
      obtain ⟨⟨s1, s2⟩, ⟨r1, r2⟩⟩ := m
      unfold msgV at hlk HFt
      dsimp only at *
      have k0 := hS1.cell 0
      have kl := hS1.lt
      have HNo : Hid ((fits ((s1, s2), (r1, r2)) = true → ((s1, s2), (r1, r2)) ∈ D.reverse ++ S) → Flw fits (M.take (i + 1)) S D) := fun h => by rw [HTk.out]; exact HH.out.1.skip h
      have HYes : Hid (fits ((s1, s2), (r1, r2)) = true → ((s1, s2), (r1, r2)) ∉ D.reverse ++ S → Flw fits (M.take (i + 1)) S (D ++ [((s1, s2), (r1, r2))])) := fun h h' => by rw [HTk.out]; exact HH.out.1.got h h'
      clear hm hmm hmF hX1 hB1 hF1 hK1 hS1 HTk
      by_cases hin : ((s1, s2), (r1, r2)) ∈ D.reverse ++ S
      · have hd : decide (((s1, s2), (r1, r2)) ∈ D.reverse ++ S) = true := decide_eq_true hin
        rw [hd] at hlk
        have HN := Lib.hid (HNo.out fun _ => hin)
        clear hin hd
        go_wp2_with fail
        refine ⟨⟨i + 1, D, A2, c2, by go_num, by omega, by omega, Lib.hid ⟨HN.out, HF1.out, HK1.out⟩⟩, by simp [intOf]; omega⟩
      · have hd : decide (((s1, s2), (r1, r2)) ∈ D.reverse ++ S) = false := decide_eq_false hin
        rw [hd] at hlk
        have Hin := Lib.hid hin
        clear hin hd
        cases hf : fits ((s1, s2), (r1, r2)) with
        | false =>
          rw [hf] at HFt
          have HN := Lib.hid (HNo.out fun h => by rw [hf] at h; cases h)
          have HC := Lib.hid (HFt.out _ HF1.out.ex HK1.out)
          clear hf HFt HNo HYes
          go_wp2_with fail
          refine (HC.out).mono ?_
          rintro e9 w' ⟨rfl, z, rfl⟩
          go_wp2_with fail
          refine ⟨⟨i + 1, D, A2, c2, by go_num, by omega, by omega, Lib.hid ⟨HN.out, HF1.out.exk ((Ex.refl _).ext z), HK1.out.trans (Kz.of ((Ex.refl _).ext z))⟩⟩, by simp [intOf]; omega⟩
        | true =>
          rw [hf] at HFt
          have HN := Lib.hid (HYes.out hf Hin.out)
          have HC := Lib.hid (HFt.out _ HF1.out.ex HK1.out)
          clear hf HFt HNo HYes
          go_wp2_with fail
          refine (HC.out).mono ?_
          rintro e9 w' ⟨rfl, hx9⟩
          obtain ⟨QD, hQD⟩ : ∃ QD, QD = Q ++ D := ⟨_, rfl⟩
          have HF2 : Hid (Fs w0 base gq gb (D.reverse ++ S) QD A2 c2 w') := by rw [hQD]; exact HF1.out.exk hx9
          have HQD := Lib.hid hQD
          have hQl : QD.length ≤ 1000000 := by rw [hQD]; simp only [List.length_append]; omega
          clear hQD
          have HK2 := Lib.hid (HK1.out.trans (Kz.of hx9))
          have HB2 := Lib.hid (HB1.out.ex hx9)
          clear k0 kl hlk v0 v1 v2 v3 hbl0 HF1 HK1 HB1 HC hx9
          have hS2 := HBs.out _ HK2.out
          have k0 := hS2.cell 0
          have kl := hS2.lt
          have y0 := HB2.out.cell 0
          have y1 := HB2.out.cell 1
          have y2 := HB2.out.cell 2
          have y3 := HB2.out.cell 3
          have yl := HB2.out.lt
          have hle : (D.reverse ++ S).length < maxLen := by simp only [List.length_append, List.length_reverse]; unfold maxLen; omega
          obtain ⟨w4, hup, hS4, hg4⟩ := HF2.out.seen.put hle HmF.out
          have HF4 := Lib.hid (HF2.out.put hS4 hg4)
          have HK4 := Lib.hid (HK2.out.trans (HF2.out.put_k hg4))
          have HB4 := Lib.hid (HB2.out.grown hg4 (fun he => (HB2.out.noZ HF2.out.seen) (Option.some.inj he)))
          unfold msgV at hup
          have z0 := HB4.out.cell 0
          have z1 := HB4.out.cell 1
          have z2 := HB4.out.cell 2
          have z3 := HB4.out.cell 3
          have zl := HB4.out.lt
          have q0 := HF4.out.cell.cell 0
          have ql := HF4.out.cell.lt
          have HO4 := Lib.hid (HF4.out.own.ex ((Ex.refl _).alloc (.cells #[.int .i64 s1, .int .i64 s2, .int .i64 r1, .int .i64 r2] 109)))
          have hbase : base ≤ w4.heap.size := HF4.out.hb.2.2.2
          clear hS2 hle hS4 hg4
          go_wp2_with (at_builtin; refine wpList_append_one _ rfl _ _ 86 rfl base 109 i0 _ 4 32 Try.underlying86 hi0 hz0 hz1 hz2 rfl (.slice A2 QD.length c2) QD.length (msgCs QD) rfl HO4.out w4.heap.size [.int .i64 s1, .int .i64 s2, .int .i64 r1, .int .i64 r2] rfl rfl ?c1 ?c2 ?c3 ?c4 ?c5 ?_)
          case c1 => exact news_new rfl (by simp)
          case c2 => exact one_ints (by simp)
          case c3 => omega
          case c4 => omega
          case c5 => simp; omega
          intro A5 c5 w5 ho hg hat hEx
          have hF5 := HF4.out.exk ((Ex.refl _).alloc (.cells #[.int .i64 s1, .int .i64 s2, .int .i64 r1, .int .i64 r2] 109))
          have ho' : OwnO w5 base 109 4 (.slice A5 (QD.length + 1) c5) (QD.length + 1) (msgCs (QD ++ [((s1, s2), (r1, r2))])) := by rw [msgCs_snoc]; exact ho
          obtain ⟨g1, g2, g3⟩ := hF5.push hg ho'
          have u0 := g1.cell 0
          have uf := g1.frozen 0
          have ul := g1.lt
          have HF6 : Hid (Fs w0 base gq gb ((D ++ [((s1, s2), (r1, r2))]).reverse ++ S) (Q ++ (D ++ [((s1, s2), (r1, r2))])) A5 c5 (w5.setCell ⟨gq, 0, none⟩ (.slice A5 (QD.length + 1) c5))) := by
            rw [List.reverse_append, ← List.append_assoc, ← HQD.out]; exact g2
          have HK6 := Lib.hid ((HK4.out.trans (Kz.of ((Ex.refl w4).alloc (.cells #[.int .i64 s1, .int .i64 s2, .int .i64 r1, .int .i64 r2] 109)))).trans g3)
          clear g1 g2 g3 hF5 ho' ho hg hat hEx HO4 HF4 HK4 HB4 z0 z1 z2 z3 zl q0 ql k0 kl y0 y1 y2 y3 yl hup
          go_wp2_with fail
          refine ⟨⟨i + 1, D ++ [((s1, s2), (r1, r2))], A5, c5, by go_num, by omega, by simp only [List.length_append, List.length_singleton]; omega, Lib.hid ⟨HN.out, HF6.out, HK6.out⟩⟩, by simp [intOf]; omega⟩
    · obtain rfl : i = M.length := by omega
      have s1 : decide ((M.length : Int) < (M.length : Int)) = false := decide_eq_false (by omega)
      have HD : Hid (Flw fits M S D) := by
        have := HH.out.1
        rwa [List.take_length] at this
      go_wp2_with fail
      refine bodyPost_end (results_none rfl _ _ _) rfl ?_
      exact ⟨rfl, D, A2, c2, HD.out, HH.out.2.1, HH.out.2.2⟩
end
section
open Go.RowKit Go.Shelf
set_option maxRecDepth 20000 in
set_option maxHeartbeats 1600000 in
theorem pInterval_c (l : List (List Int)) (B : Option Addr) (lc p i : Nat) (w : World) (hL : LlC w B l) (hls : LSm l) (hA : ∀ (p : Nat) (r : List Int), l[p]? = some r → Asc r) (hp : p < l.length) :
    Calls Try.prog 86 #[.slice B l.length lc, .agg #[.int .i64 p, .int .i64 i]] w (Ret w (.int .i64 (ivN l p i : Nat))) := by
  obtain ⟨r, hr⟩ := get_at hp
  obtain ⟨b, o, hB, hbl, A3, c3, g0, -, hrow⟩ := hL p r hr
  subst hB
  have HS := Lib.hid (fun w' (hx : Ex w w') => search_c r A3 c3 (i : Int) w' (hrow.ex hx) (hA p r hr) (hls.each r (List.mem_of_getElem? hr)))
  have hg : ivN l p i = r.countP (· < (i : Int)) := ivN_at hr i
  rw [hg]
  generalize r.countP (· < (i : Int)) = k at *
  have m0 : (0 : Int) ≤ (p : Int) := by omega
  have m1 : (p : Int) < (l.length : Int) := by omega
  clear hL hls hA hr hrow hg
  go_enter Try.func86, Try.ntmps86
  go_wp2_with fail
  refine wp_region_ext (by kernel_rfl) (by kernel_rfl) ?_
  repeat (go_big_quiet_step ((go_at_call 30; exact quiet_ext (HS.out _ (((Ex.refl w).alloc _).ext _)))))
  refine wpQuiet_end (fun z2 => ?_)
  go_wp2_with fail
  go_ret
  exact Ret.mk rfl (((Ex.refl w).alloc _).ext _)
set_option maxRecDepth 20000 in
set_option maxHeartbeats 1600000 in
theorem zfit2_c (m : Msg) (xp : Nat) (xi a : Int) (gx gf : Nat) (w : World) (hx : Blk w gx 27 [.int .i64 xp, .int .i64 xi]) (hf : Blk w gf 3 [.int .i64 a]) :
    Calls Try.prog 84 (#[msgV m] ++ #[.pointer (some ⟨gx, 0, none⟩), .pointer (some ⟨gf, 0, none⟩)]) w (Ret w (.bool (decide (m.1.1 = xp) && decide (a < (m.1.2 : Int))))) := by
  obtain ⟨⟨s1, s2⟩, ⟨r1, r2⟩⟩ := m
  unfold msgV
  have HX : Hid (∀ n, Ex w ((w.alloc (.cells #[.int .i64 s1, .int .i64 s2, .int .i64 r1, .int .i64 r2] 109)).drewN n)) := fun n => ((Ex.refl w).alloc _).drewN n
  have x0 := hx.cell 0
  have xl := hx.lt
  have f0 := hf.cell 0
  have fl := hf.lt
  dsimp only
  by_cases h1 : s1 = xp
  · have e1 : ((s1 : Int) == (xp : Int)) = true := by simp [h1]
    have e2 : decide (s1 = xp) = true := decide_eq_true h1
    rw [e2]
    generalize hd : decide (a < (s2 : Int)) = db at *
    clear hx hf e2 h1
    go_enter Try.func84, Try.ntmps84
    go_wp2_with fail
    first
      | (go_quiet (fail); go_wp2_with fail; go_ret; exact Ret.mk (by first | rfl | simp) (HX.out _))
      | (go_ret; exact Ret.mk (by first | rfl | simp) (HX.out 0))
  · have e1 : ((s1 : Int) == (xp : Int)) = false := beq_eq_false_iff_ne.2 (by omega)
    have e2 : decide (s1 = xp) = false := decide_eq_false h1
    rw [e2]
    clear hx hf e2 h1
    go_enter Try.func84, Try.ntmps84
    go_wp2_with fail
    first
      | (go_quiet (fail); go_wp2_with fail; go_ret; exact Ret.mk (by first | rfl | simp) (HX.out _))
      | (go_ret; exact Ret.mk (by first | rfl | simp) (HX.out 0))
set_option maxRecDepth 20000 in
set_option maxHeartbeats 1600000 in
theorem zfit3_c (l : List (List Int)) (B : Option Addr) (lc : Nat) (k m : Msg) (gl gL : Nat) (w : World) (hL : LlC w B l) (hls : LSm l) (hA : ∀ (p : Nat) (r : List Int), l[p]? = some r → Asc r) (hk : k.2.1 < l.length) (hm : m.1.1 < l.length) (hx : Blk w gl 27 [.int .i64 (k.2.1 : Nat), .int .i64 (k.2.2 : Nat)]) (hf : Blk w gL 25 [.slice B l.length lc]) :
    Calls Try.prog 85 (#[msgV m] ++ #[.pointer (some ⟨gl, 0, none⟩), .pointer (some ⟨gL, 0, none⟩)]) w (Ret w (.bool (nxB l k m))) := by
  obtain ⟨⟨s1, s2⟩, ⟨r1, r2⟩⟩ := m
  obtain ⟨⟨k1, k2⟩, ⟨k3, k4⟩⟩ := k
  unfold msgV nxB
  dsimp only at *
  have HI := Lib.hid (fun p i w' (h : Ex w w') (hp : p < l.length) => pInterval_c l B lc p i w' (hL.ex h) hls hA hp)
  have x0 := hx.cell 0
  have x1 := hx.cell 1
  have xl := hx.lt
  have f0 := hf.cell 0
  have fl := hf.lt
  by_cases h1 : s1 = k3
  · have e1 : ((s1 : Int) == (k3 : Int)) = true := by simp [h1]
    have e2 : decide (s1 = k3) = true := decide_eq_true h1
    rw [e2]
    have HI1 := Lib.hid (fun w' (h : Ex w w') => HI.out s1 s2 w' h hm)
    have HI2 := Lib.hid (fun w' (h : Ex w w') => HI.out k3 k4 w' h hk)
    have e3 : decide (ivN l k3 k4 ≤ ivN l s1 s2) = decide ((ivN l k3 k4 : Int) ≤ (ivN l s1 s2 : Int)) := decide_eq_decide.2 (by omega)
    rw [e3]
    generalize ivN l k3 k4 = iv1 at *
    generalize ivN l s1 s2 = iv2 at *
    generalize hd : decide ((iv1 : Int) ≤ (iv2 : Int)) = db at *
    clear hx hf e2 e3 h1 hL HI hls hA
    go_enter Try.func85, Try.ntmps85
    go_wp2_with fail
    refine wp_region_ext (by kernel_rfl) (by kernel_rfl) ?_
    repeat (go_big_quiet_step ((go_at_call 86; with_reducible exact quiet_ext (HI1.out _ (((Ex.refl w).alloc _).ext _)))))
    repeat (go_big_quiet_step ((go_at_call 86; with_reducible exact quiet_ext (HI2.out _ (((Ex.refl w).alloc _).ext _)))))
    refine wpQuiet_end (fun z2 => ?_)
    go_wp2_with fail
    go_ret
    exact Ret.mk (by rw [← hd]; simp) (((Ex.refl w).alloc _).ext _)
  · have e1 : ((s1 : Int) == (k3 : Int)) = false := beq_eq_false_iff_ne.2 (by omega)
    have e2 : decide (s1 = k3) = false := decide_eq_false h1
    rw [e2]
    clear hx hf e2 h1 hL HI hls hA
    go_enter Try.func85, Try.ntmps85
    go_wp2_with fail
    refine wp_region_ext (by kernel_rfl) (by kernel_rfl) ?_
    repeat (go_big_quiet_step (fail))
    refine wpQuiet_end (fun z2 => ?_)
    go_wp2_with fail
    go_ret
    exact Ret.mk (by first | rfl | simp) (((Ex.refl w).alloc _).ext _)
end
section
open Go.RowKit Go.Shelf
/-- the state of a checkpoint -/
def lvZ (l : List (List Int)) (x : Nat × Nat) : Int := (l.getD x.1 []).getD (x.2 - 1) 0
/-- one state of one process -/
def oneX (p : Nat) (a : Int) (q : Nat) : Option Int := if q = p then some a else none
noncomputable def zzB (l : List (List Int)) (M : List Msg) (x y : Nat × Nat) : Bool := zB M (stX (oneX x.1 (lvZ l x))) (nxB l) (goX (oneX y.1 (lvZ l y)))
theorem stX_one (p : Nat) (a : Int) (m : Msg) : stX (oneX p a) m = (decide (m.1.1 = p) && decide (a < (m.1.2 : Int))) := by
  unfold stX oneX
  by_cases h : m.1.1 = p
  · rw [if_pos h, decide_eq_true h]; rfl
  · rw [if_neg h, decide_eq_false h]; rfl
theorem goX_one (p : Nat) (a : Int) (m : Msg) : goX (oneX p a) m = (decide (m.2.1 = p) && decide ((m.2.2 : Int) ≤ a)) := by
  unfold goX oneX
  by_cases h : m.2.1 = p
  · rw [if_pos h, decide_eq_true h]; rfl
  · rw [if_neg h, decide_eq_false h]; rfl
/-- there is such a checkpoint -/
def CkP (l : List (List Int)) (x : Nat × Nat) : Prop := x.1 < l.length ∧ 1 ≤ x.2 ∧ x.2 ≤ (l.getD x.1 []).length
/-- a checkpoint's state in memory -/
theorem CkP.cell {l : List (List Int)} {x : Nat × Nat} (h : CkP l x) {w : World} {B : Option Addr} (hL : LlC w B l) : ∃ b o A n c g k, B = some ⟨b, o, none⟩ ∧ b < w.heap.size ∧ w.cell? ⟨b, o + x.1, none⟩ = some (.slice A n c) ∧ A = some ⟨g, k, none⟩ ∧ g < w.heap.size ∧ w.cell? ⟨g, k + (x.2 - 1), none⟩ = some (.int .i64 (lvZ l x)) ∧ x.2 ≤ n ∧ n = (l.getD x.1 []).length := by
  obtain ⟨r, hr⟩ := get_at h.1
  obtain ⟨b, o, hB, hb, A, c, g0, -, hrow⟩ := hL _ r hr
  have hg : l.getD x.1 [] = r := by rw [List.getD_eq_getElem?_getD, hr]; rfl
  have h1 := h.2.1
  have h2 := h.2.2
  rw [hg] at h2
  obtain ⟨g, k, hA, hgl, hcs⟩ := row_at hrow (fun he => by rw [he] at h2; simp at h2; omega)
  obtain ⟨a, ha⟩ := get_at (show x.2 - 1 < r.length by omega)
  refine ⟨b, o, A, _, c, g, k, hB, hb, g0, hA, hgl, ?_, h2, by rw [hg]⟩
  rw [hcs _ a ha]
  unfold lvZ
  rw [hg, List.getD_eq_getElem?_getD, ha]
  rfl
theorem Fs.pop {w0 : World} {base gq gb : Nat} {S Q : List Msg} {u : Msg} {A A' : Option Addr} {c c' : Nat} {w : World} (h : Fs w0 base gq gb S (u :: Q) A c w) (ho : OwnO w base 109 4 (.slice A' Q.length c') Q.length (msgCs Q)) : Fs w0 base gq gb S Q A' c' (w.setCell ⟨gq, 0, none⟩ (.slice A' Q.length c')) := by
  refine ⟨h.ex.setCell (p := ⟨gq, 0, none⟩) h.hb.2.1 _, ?_, h.cell.set_ 0 _, ho.set_ (p := ⟨gq, 0, none⟩) (fun he => (ho.ne h.cell (by decide)) he.symm) _, h.hb.1, h.hb.2.1, h.hb.2.2.1, by rw [World.size_setCell]; exact h.hb.2.2.2⟩
  refine h.seen.keep ?_
  have hne : gb ≠ gq := fun he => (h.cell.noZ h.seen) he.symm
  exact (Below.heap_setCell w ⟨gq, 0, none⟩ _ gb hne).symm
set_option maxRecDepth 100000 in
set_option maxHeartbeats 3200000 in
theorem zigzag_c (l : List (List Int)) (B : Option Addr) (lc : Nat) (M : List Msg) (MA : Option Addr) (mc : Nat) (x y : Nat × Nat) (w : World) (hL : LlC w B l) (hls : LSm l) (hA : ∀ (p : Nat) (r : List Int), l[p]? = some r → Asc r) (hM : Row w MA (msgCs M)) (hml : M.length ≤ 100000) (hmf : ∀ m, m ∈ M → FitM m) (hmb : ∀ m, m ∈ M → m.1.1 < l.length ∧ m.2.1 < l.length) (hx : CkP l x) (hy : CkP l y) :
    Calls Try.prog 55 #[.slice B l.length lc, .slice MA M.length mc, idV x, idV y] w (Ret w (.bool (zzB l M x y))) := by
  have hll := hls.rows
  obtain ⟨bx, ox, Ax, nx, cx, gx, kx, hB, hbx, x0, hAx, hgx, x1, hnx, hnx2⟩ := hx.cell hL
  obtain ⟨by_, oy, Ay, ny, cy, gy, ky, hB2, -, y0, hAy, hgy, y1, hny, hny2⟩ := hy.cell hL
  have hrow : ∀ p, (l.getD p []).length ≤ 100000 := fun p => by
    rw [List.getD_eq_getElem?_getD]
    cases h : l[p]? with
    | none => simp
    | some r => exact hls.each r (List.mem_of_getElem? h)
  have hnx3 : nx ≤ 100000 := by rw [hnx2]; exact hrow _
  have hny3 : ny ≤ 100000 := by rw [hny2]; exact hrow _
  clear hnx2 hny2 hrow
  subst hB
  cases hB2
  subst hAx hAy
  obtain ⟨xp, xi⟩ := x
  obtain ⟨yp, yi⟩ := y
  obtain ⟨xj, rfl⟩ : ∃ j, xi = j + 1 := ⟨xi - 1, by have := hx.2.1; dsimp only at this; omega⟩
  obtain ⟨yj, rfl⟩ : ∃ j, yi = j + 1 := ⟨yi - 1, by have := hy.2.1; dsimp only at this; omega⟩
  have hxl := hx.1
  have hyl := hy.1
  unfold zzB idV
  dsimp only at *
  generalize lvZ l (xp, xj + 1) = va at *
  generalize lvZ l (yp, yj + 1) = vb at *
  have hmm := @run_makeMap Try.prog
  obtain ⟨W1, hW1⟩ : ∃ W1, W1 = ((((((w.alloc (.cells #[.slice (some ⟨bx, ox, none⟩) l.length lc] 25)).alloc (.cells #[.slice MA M.length mc] 86)).alloc (.cells #[.int .i64 xp, .int .i64 ((xj : Int) + 1)] 27)).alloc (.cells #[.int .i64 yp, .int .i64 ((yj : Int) + 1)] 27)).alloc (.cells #[.slice none 0 0] 86)).alloc (.map #[] 0)).alloc (.cells #[.map (some (w.heap.size + 1 + 1 + 1 + 1 + 1))] 106) := ⟨_, rfl⟩
  have hX1 : Ex w W1 := by rw [hW1]; exact (((((((Ex.refl w).alloc _).alloc _).alloc _).alloc _).alloc _).alloc _).alloc _
  have hs1 : W1.heap.size = w.heap.size + 7 := by rw [hW1]; simp
  have b0 : Blk W1 w.heap.size 25 [.slice (some ⟨bx, ox, none⟩) l.length lc] := by rw [hW1]; exact (((((((Blk.new w _ _).alloc _).alloc _).alloc _).alloc _).alloc _).alloc _)
  have b1 : Blk W1 (w.heap.size + 1) 86 [.slice MA M.length mc] := by
    rw [hW1, show w.heap.size + 1 = (w.alloc (.cells #[.slice (some ⟨bx, ox, none⟩) l.length lc] 25)).heap.size by simp]; exact ((((((Blk.new _ _ _).alloc _).alloc _).alloc _).alloc _).alloc _)
  have b2 : Blk W1 (w.heap.size + 1 + 1) 27 [.int .i64 xp, .int .i64 ((xj : Int) + 1)] := by
    rw [hW1, show w.heap.size + 1 + 1 = ((w.alloc (.cells #[.slice (some ⟨bx, ox, none⟩) l.length lc] 25)).alloc (.cells #[.slice MA M.length mc] 86)).heap.size by simp]; exact (((((Blk.new _ _ _).alloc _).alloc _).alloc _).alloc _)
  have b3 : Blk W1 (w.heap.size + 1 + 1 + 1) 27 [.int .i64 yp, .int .i64 ((yj : Int) + 1)] := by
    rw [hW1, show w.heap.size + 1 + 1 + 1 = (((w.alloc (.cells #[.slice (some ⟨bx, ox, none⟩) l.length lc] 25)).alloc (.cells #[.slice MA M.length mc] 86)).alloc (.cells #[.int .i64 xp, .int .i64 ((xj : Int) + 1)] 27)).heap.size by simp]; exact ((((Blk.new _ _ _).alloc _).alloc _).alloc _)
  have b4 : Blk W1 (w.heap.size + 1 + 1 + 1 + 1) 86 [.slice none 0 0] := by
    rw [hW1, show w.heap.size + 1 + 1 + 1 + 1 = ((((w.alloc (.cells #[.slice (some ⟨bx, ox, none⟩) l.length lc] 25)).alloc (.cells #[.slice MA M.length mc] 86)).alloc (.cells #[.int .i64 xp, .int .i64 ((xj : Int) + 1)] 27)).alloc (.cells #[.int .i64 yp, .int .i64 ((yj : Int) + 1)] 27)).heap.size by simp]; exact (((Blk.new _ _ _).alloc _).alloc _)
  have b5 : SeenZ W1 (w.heap.size + 1 + 1 + 1 + 1 + 1) 0 [] := by
    rw [hW1, show w.heap.size + 1 + 1 + 1 + 1 + 1 = (((((w.alloc (.cells #[.slice (some ⟨bx, ox, none⟩) l.length lc] 25)).alloc (.cells #[.slice MA M.length mc] 86)).alloc (.cells #[.int .i64 xp, .int .i64 ((xj : Int) + 1)] 27)).alloc (.cells #[.int .i64 yp, .int .i64 ((yj : Int) + 1)] 27)).alloc (.cells #[.slice none 0 0] 86)).heap.size by simp]; exact (SeenZ.made _).ex ((Ex.refl _).alloc _)
  have b6 : Blk W1 (w.heap.size + 1 + 1 + 1 + 1 + 1 + 1) 106 [.map (some (w.heap.size + 1 + 1 + 1 + 1 + 1))] := by
    rw [hW1]
    have := Blk.new ((((((w.alloc (.cells #[.slice (some ⟨bx, ox, none⟩) l.length lc] 25)).alloc (.cells #[.slice MA M.length mc] 86)).alloc (.cells #[.int .i64 xp, .int .i64 ((xj : Int) + 1)] 27)).alloc (.cells #[.int .i64 yp, .int .i64 ((yj : Int) + 1)] 27)).alloc (.cells #[.slice none 0 0] 86)).alloc (.map #[] 0)) 106 [.map (some (w.heap.size + 1 + 1 + 1 + 1 + 1))]
    simpa using this
  have HW1 := Lib.hid hW1
  clear hW1
  go_enter Try.func55, Try.ntmps55
  go_wp2_with fail
  rw [← HW1.out]
  have c0 := b0.cell 0
  have cl0 := b0.lt
  have c2 := b2.cell 0
  have c2' := b2.cell 1
  have cl2 := b2.lt
  have c3 := b3.cell 0
  have c3' := b3.cell 1
  have cl3 := b3.lt
  have d0 : W1.cell? ⟨bx, ox + xp, none⟩ = some (.slice (some ⟨gx, kx, none⟩) nx cx) := (hX1.below.cell hbx).trans x0
  have d1 : W1.cell? ⟨gx, kx + xj, none⟩ = some (.int .i64 va) := (hX1.below.cell hgx).trans x1
  have d2 : W1.cell? ⟨bx, ox + yp, none⟩ = some (.slice (some ⟨gy, ky, none⟩) ny cy) := (hX1.below.cell hbx).trans y0
  have d3 : W1.cell? ⟨gy, ky + yj, none⟩ = some (.int .i64 vb) := (hX1.below.cell hgy).trans y1
  have e0 : bx < W1.heap.size := Nat.lt_of_lt_of_le hbx hX1.below.size
  have e1 : gx < W1.heap.size := Nat.lt_of_lt_of_le hgx hX1.below.size
  have e2 : gy < W1.heap.size := Nat.lt_of_lt_of_le hgy hX1.below.size
  have m0 : (0 : Int) ≤ (xp : Int) := by omega
  have m1 : (xp : Int) < (l.length : Int) := by omega
  have m2 : (0 : Int) ≤ (yp : Int) := by omega
  have m3 : (yp : Int) < (l.length : Int) := by omega
  have m4 : (0 : Int) ≤ (xj : Int) := by omega
  have m5 : (xj : Int) < (nx : Int) := by omega
  have m6 : (0 : Int) ≤ (yj : Int) := by omega
  have m7 : (yj : Int) < (ny : Int) := by omega
  have w1 : IntKind.i64.wrap ((xj : Int) + 1 - 1) = (xj : Int) := by rw [IntWalk.i64_in _ (by omega)]; omega
  have w2 : IntKind.i64.wrap ((yj : Int) + 1 - 1) = (yj : Int) := by rw [IntWalk.i64_in _ (by omega)]; omega
  have w3 : IntKind.i64.wrap (xj : Int) = (xj : Int) := IntWalk.i64_in _ (by omega)
  have w4 : IntKind.i64.wrap (yj : Int) = (yj : Int) := IntWalk.i64_in _ (by omega)
  have HX1 := Lib.hid hX1
  have HBs := Lib.hid (And.intro b0 (And.intro b1 (And.intro b2 (And.intro b3 (And.intro b4 (And.intro b5 b6))))))
  have HS1 := Lib.hid hs1
  clear hX1 b0 b1 b2 b3 b4 b5 b6 hs1 hbx hgx hgy x0 x1 y0 y1 hmm hx hy
  have HS2 : Hid (w.heap.size + 1 + 1 + 1 + 1 + 1 + 1 + 1 = W1.heap.size) := Lib.hid (by have := HS1.out; omega)
  have hs2 := HS2.out
  generalize hn6 : w.heap.size + 1 + 1 + 1 + 1 + 1 + 1 = n6 at *
  generalize hn5 : w.heap.size + 1 + 1 + 1 + 1 + 1 = n5 at *
  generalize hn4 : w.heap.size + 1 + 1 + 1 + 1 = n4 at *
  generalize hn3 : w.heap.size + 1 + 1 + 1 = n3 at *
  generalize hn2 : w.heap.size + 1 + 1 = n2 at *
  generalize hn1 : w.heap.size + 1 = n1 at *
  generalize hn0 : w.heap.size = n0 at *
  generalize hnb : W1.heap.size = nb at *
  have ne0 : n0 ≠ nb := by omega
  have ne0' : nb ≠ n0 := by omega
  have ne2 : n2 ≠ nb := by omega
  have ne2' : nb ≠ n2 := by omega
  have ne3 : n3 ≠ nb := by omega
  have ne3' : nb ≠ n3 := by omega
  have ne4 : bx ≠ nb := by omega
  have ne4' : nb ≠ bx := by omega
  have ne5 : gx ≠ nb := by omega
  have ne5' : nb ≠ gx := by omega
  have ne6 : gy ≠ nb := by omega
  have ne6' : nb ≠ gy := by omega
  have HN := Lib.hid (And.intro hn0 (And.intro hn1 (And.intro hn2 (And.intro hn3 (And.intro hn4 (And.intro hn5 (And.intro hn6 hnb)))))))
  clear hn0 hn1 hn2 hn3 hn4 hn5 hn6 hs2
  go_region_held3 (fun (w' : World) => w'.cell? ⟨n0, 0, none⟩ = some (.slice (some ⟨bx, ox, none⟩) l.length lc) ∧ w'.cell? ⟨n2, 0, none⟩ = some (.int .i64 xp) ∧ w'.cell? ⟨n2, 1, none⟩ = some (.int .i64 ((xj : Int) + 1)) ∧ w'.cell? ⟨n3, 0, none⟩ = some (.int .i64 yp) ∧ w'.cell? ⟨n3, 1, none⟩ = some (.int .i64 ((yj : Int) + 1)) ∧ w'.cell? ⟨bx, ox + xp, none⟩ = some (.slice (some ⟨gx, kx, none⟩) nx cx) ∧ w'.cell? ⟨gx, kx + xj, none⟩ = some (.int .i64 va) ∧ w'.cell? ⟨bx, ox + yp, none⟩ = some (.slice (some ⟨gy, ky, none⟩) ny cy) ∧ w'.cell? ⟨gy, ky + yj, none⟩ = some (.int .i64 vb))
    (first | exact ⟨c0, c2, c2', c3, c3', d0, d1, d2, d3⟩ | go_keep)
    (first | fail)
  have HM := Lib.hid hM
  have HMf := Lib.hid hmf
  have HMb := Lib.hid hmb
  have HL := Lib.hid hL
  have HLs := Lib.hid hls
  have HAs := Lib.hid hA
  have HNn := Lib.hid (And.intro ne0 (And.intro ne2 ne3))
  have hX2 : Ex W1 (W1.alloc (.cells #[.int .i64 va] 3)).drew := ((Ex.refl _).alloc _).drew
  have bb : Blk (W1.alloc (.cells #[.int .i64 va] 3)).drew nb 3 [.int .i64 va] := by
    have := Blk.new W1 3 [.int .i64 va]
    rw [HN.out.2.2.2.2.2.2.2] at this
    exact this.drew
  clear c0 cl0 c2 c2' cl2 c3 c3' cl3 d0 d1 d2 d3 e0 e1 e2 ne0' ne2' ne3' ne4' ne5' ne6' ne4 ne5 ne6 hM hmf hmb hL hls hA ne0 ne2 ne3
  generalize (W1.alloc (.cells #[.int .i64 va] 3)).drew = W2 at *
  obtain ⟨b0, b1, b2, b3, b4, b5, b6⟩ := HBs.out
  have HX2 := Lib.hid (HX1.out.trans hX2)
  have hF0 : Fs w w.heap.size n4 n5 [] [] none 0 W2 := ⟨HX2.out, b5.ex hX2, b4.ex hX2, OwnO.nil _ _ _ _, Nat.le_refl _, by have := HN.out; omega, by have := HN.out; omega, HX2.out.below.size⟩
  have h41 : n1 ≠ n4 ∧ n6 ≠ n4 := by have := HN.out; omega
  have HC2 := Lib.hid (follow_c (N := 84) (caps := #[.pointer (some ⟨n2, 0, none⟩), .pointer (some ⟨nb, 0, none⟩)]) (fits := stX (oneX xp va)) (fun _ _ => by kernel_rfl) M MA mc n1 n6 n4 n5 w.heap.size [] [] none 0 w W2 HM.out hml HMf.out (b1.ex hX2) (b6.ex hX2) h41 hF0 (by simp) (by simp)
    (fun m _ w' _ hk => by
      rw [stX_one]
      exact zfit2_c m xp _ va n2 nb w' (hk.blk _ _ _ (b2.ex hX2) (by decide) (by have := HN.out; omega)) (hk.blk _ _ _ bb (by decide) (by have := HN.out; have := HS2.out; omega))))
  have HB0 := Lib.hid (b0.ex hX2)
  have HB1 := Lib.hid (b1.ex hX2)
  have HB3 := Lib.hid (b3.ex hX2)
  have HB6 := Lib.hid (b6.ex hX2)
  have HH41 := Lib.hid h41
  clear b0 b1 b2 b3 b4 b5 b6 bb hX2 hF0 h41 HBs HX1
  go_wp2_with fail
  refine (HC2.out).mono ?_
  rintro e9 w5 ⟨rfl, D0, A5, c5, hD0, hF5, hK5⟩
  rw [List.append_nil, List.nil_append] at hF5
  have HZ := Lib.hid (Zsr.begin (nx := nxB l) (go := goX (oneX yp vb)) hD0)
  have HF5 := Lib.hid hF5
  have HK5 := Lib.hid hK5
  have hdl := HZ.out.size
  rw [List.length_reverse] at hdl
  generalize stX (oneX xp va) = st at *
  generalize hgo : goX (oneX yp vb) = go at *
  have HGo : Hid (∀ m, go m = (decide (m.2.1 = yp) && decide ((m.2.2 : Int) ≤ vb))) := fun m => by rw [← hgo, goX_one]
  clear hD0 hF5 hK5 HC2 hgo
  go_wp2_with fail
  go_loopg [42] (M.length) (fun gg _ wr => ∃ (S Q : List Msg) (A : Option Addr) (c : Nat), M.length - S.length + Q.length ≤ gg ∧ M.length - S.length + Q.length ≤ M.length ∧ Hid (Zsr M st (nxB l) go S Q ∧ Fs w w.heap.size n4 n5 S Q A c wr ∧ Kz n4 W2 wr))
  case atStart => exact ⟨D0.reverse, D0, A5, c5, by rw [List.length_reverse]; omega, by rw [List.length_reverse]; omega, Lib.hid ⟨HZ.out, HF5.out, HK5.out⟩⟩
  case round =>
    clear HZ HF5 HK5
    obtain ⟨S, Q, A, c, hgg, hgb, HH⟩ := hrel
    have hsz := HH.out.1.size
    cases Q with
    | nil =>
      have x0 := HH.out.2.1.cell.cell 0
      have xl := HH.out.2.1.cell.lt
      have HE := Lib.hid HH.out.1.end_
      have HXr := Lib.hid HH.out.2.1.ex
      clear HH
      go_wp2_with fail
      go_ret
      exact Ret.mk (by rw [HE.out]; rfl) HXr.out
    | cons u Q =>
      have x0 := HH.out.2.1.cell.cell 0
      have xl := HH.out.2.1.cell.lt
      have xf := HH.out.2.1.cell.frozen 0
      obtain ⟨g, o, cap, hv, hcap, -, hgb2, hgl, hcell⟩ := HH.out.2.1.own.open_ (by simp)
      cases hv
      have hcap' : Q.length + 1 ≤ c := hcap
      obtain ⟨-, -, d2, d3⟩ := msg_cells (M := u :: Q) (i := 0) rfl
      have k2 : wr.cell? ⟨g, o + 2, none⟩ = some (.int .i64 (u.2.1 : Nat)) := by have := hcell _ _ d2; simpa using this
      have k3 : wr.cell? ⟨g, o + 3, none⟩ = some (.int .i64 (u.2.2 : Nat)) := by have := hcell _ _ d3; simpa using this
      have m8 : (0 : Int) < (Q.length : Int) + 1 := by omega
      have t8 : decide ((0 : Int) < (Q.length : Int) + 1) = true := decide_eq_true m8
      have m9 : (1 : Int) ≤ (Q.length : Int) + 1 := by omega
      have m10 : 1 ≤ c := by omega
      have hum := (HH.out.1.rch u (HH.out.1.sub u List.mem_cons_self)).mem
      have hub := HMb.out u hum
      have HTl1 : Hid (c = 1 → OwnO wr w.heap.size 109 4 (.slice (some ⟨g, o, none⟩) Q.length 0) Q.length (msgCs Q)) := fun h1 => by
        subst h1
        have hr0 : Q = [] := List.length_eq_zero_iff.1 (by omega)
        subst hr0
        exact HH.out.2.1.own.tail1
      have HTl2 : Hid (OwnO wr w.heap.size 109 4 (.slice (some ⟨g, o + 4, none⟩) Q.length (c - 1)) Q.length (msgCs Q)) := HH.out.2.1.own.tail
      have hgo := HGo.out u
      have HZu := Lib.hid HH.out.1
      have HFu := Lib.hid HH.out.2.1
      have HKu := Lib.hid HH.out.2.2
      have hXa : Ex wr (wr.alloc (.cells #[.int .i64 (u.2.1 : Nat), .int .i64 (u.2.2 : Nat)] 27)) := (Ex.refl _).alloc _
      have hBl : Blk (wr.alloc (.cells #[.int .i64 (u.2.1 : Nat), .int .i64 (u.2.2 : Nat)] 27)) wr.heap.size 27 [.int .i64 (u.2.1 : Nat), .int .i64 (u.2.2 : Nat)] := Blk.new wr _ _
      have hsl : S.length ≤ 100000 := by omega
      have hql : Q.length ≤ 100000 := by simp only [List.length_cons] at hgb; omega
      have hls4 : n4 ≠ wr.heap.size := by omega
      clear hcell d2 d3 hcap HH
      have hz3 := HKu.out.blk _ _ _ HB3.out (by decide) (by have := HN.out; omega)
      have z0 := hz3.cell 0
      have z1 := hz3.cell 1
      have zl := hz3.lt
      have zn : n3 ≠ n4 := by have := HN.out; omega
      have zn' : n4 ≠ n3 := Ne.symm zn
      clear hz3 hXa hBl
      by_cases hc1 : c = 1
      · have HTl := Lib.hid (HTl1.out hc1)
        have HFp := Lib.hid ((HFu.out.pop HTl.out).exk ((Ex.refl _).alloc (.cells #[.int .i64 (u.2.1 : Nat), .int .i64 (u.2.2 : Nat)] 27)))
        have HKp := Lib.hid ((HKu.out.set 0 (.slice (some ⟨g, o, none⟩) Q.length 0)).trans (Kz.of ((Ex.refl _).alloc (.cells #[.int .i64 (u.2.1 : Nat), .int .i64 (u.2.2 : Nat)] 27))))
        have HBl : Hid (Blk ((wr.setCell ⟨n4, 0, none⟩ (.slice (some ⟨g, o, none⟩) Q.length 0)).alloc (.cells #[.int .i64 (u.2.1 : Nat), .int .i64 (u.2.2 : Nat)] 27)) wr.heap.size 27 [.int .i64 (u.2.1 : Nat), .int .i64 (u.2.2 : Nat)]) := by
          have := Blk.new (wr.setCell ⟨n4, 0, none⟩ (.slice (some ⟨g, o, none⟩) Q.length 0)) 27 [.int .i64 (u.2.1 : Nat), .int .i64 (u.2.2 : Nat)]
          rw [World.size_setCell] at this
          exact this
        by_cases h1 : u.2.1 = yp
        · have s1 : (((u.2.1 : Nat) : Int) == (yp : Int)) = true := by simp [h1]
          by_cases h2 : ((u.2.2 : Nat) : Int) ≤ vb
          · have s2 : decide (((u.2.2 : Nat) : Int) ≤ vb) = true := decide_eq_true h2
            rw [decide_eq_true h1, s2] at hgo
            have HE := Lib.hid (HZu.out.found hgo)
            clear h1 h2 HTl HTl1 HTl2 HKp HBl
            go_wp2_with fail
            go_ret
            exact Ret.mk (by rw [HE.out]; rfl) HFp.out.ex
          · have s2 : decide (((u.2.2 : Nat) : Int) ≤ vb) = false := decide_eq_false h2
            rw [decide_eq_true h1, s2] at hgo
            simp only [Bool.and_false] at hgo
            clear h1 h2
            obtain ⟨W3, hW3⟩ : ∃ W3, W3 = (wr.setCell ⟨n4, 0, none⟩ (.slice (some ⟨g, o, none⟩) Q.length 0)).alloc (.cells #[.int .i64 (u.2.1 : Nat), .int .i64 (u.2.2 : Nat)] 27) := ⟨_, rfl⟩
            rw [← hW3] at HFp HKp HBl
            have HC3 := Lib.hid (follow_c (N := 85) (caps := #[.pointer (some ⟨wr.heap.size, 0, none⟩), .pointer (some ⟨n0, 0, none⟩)]) (fits := nxB l u) (fun _ _ => by kernel_rfl) M MA mc n1 n6 n4 n5 w.heap.size S Q _ _ w W3 HM.out hml HMf.out (HKp.out.blk _ _ _ HB1.out (by decide) HH41.out.1) (HKp.out.blk _ _ _ HB6.out (by decide) HH41.out.2) HH41.out HFp.out hsl hql
              (fun m hm w' hx hk => zfit3_c l _ lc u m wr.heap.size n0 w' (HL.out.ex hx) HLs.out HAs.out hub.2 (HMb.out m hm).1 (hk.blk _ _ _ HBl.out (by decide) (Ne.symm hls4)) ((HKp.out.trans hk).blk _ _ _ HB0.out (by decide) (by have := HN.out; omega))))
            have HKq := Lib.hid HKp.out
            have HW3 := Lib.hid hW3
            clear hW3 HKp HFp HBl HTl HTl1 HTl2 HFu HKu
            go_wp2_with fail
            rw [← HW3.out]
            refine (HC3.out).mono ?_
            rintro e9 w6 ⟨rfl, D, A6, c6, hD, hF6, hK6⟩
            have HNx := Lib.hid (HZu.out.next hgo hD)
            have hs6 := HNx.out.size
            have HR6 := Lib.hid (And.intro hF6 (HKq.out.trans hK6))
            simp only [List.length_append, List.length_reverse] at hs6
            simp only [List.length_cons] at hgg hgb
            clear hD hF6 hK6 HC3 HZu
            go_wp2_with fail
            go_roundg (M.length - (D.reverse ++ S).length + (Q ++ D).length)
            case measure => simp only [List.length_append, List.length_reverse]; omega
            case rel => exact ⟨D.reverse ++ S, Q ++ D, A6, c6, Nat.le_refl _, by simp only [List.length_append, List.length_reverse]; omega, Lib.hid ⟨HNx.out, HR6.out.1, HR6.out.2⟩⟩
        · have s1 : (((u.2.1 : Nat) : Int) == (yp : Int)) = false := beq_eq_false_iff_ne.2 (by omega)
          rw [decide_eq_false h1] at hgo
          simp only [Bool.false_and] at hgo
          clear h1
          obtain ⟨W3, hW3⟩ : ∃ W3, W3 = (wr.setCell ⟨n4, 0, none⟩ (.slice (some ⟨g, o, none⟩) Q.length 0)).alloc (.cells #[.int .i64 (u.2.1 : Nat), .int .i64 (u.2.2 : Nat)] 27) := ⟨_, rfl⟩
          rw [← hW3] at HFp HKp HBl
          have HC3 := Lib.hid (follow_c (N := 85) (caps := #[.pointer (some ⟨wr.heap.size, 0, none⟩), .pointer (some ⟨n0, 0, none⟩)]) (fits := nxB l u) (fun _ _ => by kernel_rfl) M MA mc n1 n6 n4 n5 w.heap.size S Q _ _ w W3 HM.out hml HMf.out (HKp.out.blk _ _ _ HB1.out (by decide) HH41.out.1) (HKp.out.blk _ _ _ HB6.out (by decide) HH41.out.2) HH41.out HFp.out hsl hql
            (fun m hm w' hx hk => zfit3_c l _ lc u m wr.heap.size n0 w' (HL.out.ex hx) HLs.out HAs.out hub.2 (HMb.out m hm).1 (hk.blk _ _ _ HBl.out (by decide) (Ne.symm hls4)) ((HKp.out.trans hk).blk _ _ _ HB0.out (by decide) (by have := HN.out; omega))))
          have HKq := Lib.hid HKp.out
          have HW3 := Lib.hid hW3
          clear hW3 HKp HFp HBl HTl HTl1 HTl2 HFu HKu
          go_wp2_with fail
          rw [← HW3.out]
          refine (HC3.out).mono ?_
          rintro e9 w6 ⟨rfl, D, A6, c6, hD, hF6, hK6⟩
          have HNx := Lib.hid (HZu.out.next hgo hD)
          have hs6 := HNx.out.size
          have HR6 := Lib.hid (And.intro hF6 (HKq.out.trans hK6))
          simp only [List.length_append, List.length_reverse] at hs6
          simp only [List.length_cons] at hgg hgb
          clear hD hF6 hK6 HC3 HZu
          go_wp2_with fail
          go_roundg (M.length - (D.reverse ++ S).length + (Q ++ D).length)
          case measure => simp only [List.length_append, List.length_reverse]; omega
          case rel => exact ⟨D.reverse ++ S, Q ++ D, A6, c6, Nat.le_refl _, by simp only [List.length_append, List.length_reverse]; omega, Lib.hid ⟨HNx.out, HR6.out.1, HR6.out.2⟩⟩
      · have HTl := Lib.hid HTl2.out
        have HFp := Lib.hid ((HFu.out.pop HTl.out).exk ((Ex.refl _).alloc (.cells #[.int .i64 (u.2.1 : Nat), .int .i64 (u.2.2 : Nat)] 27)))
        have HKp := Lib.hid ((HKu.out.set 0 (.slice (some ⟨g, o + 4, none⟩) Q.length (c - 1))).trans (Kz.of ((Ex.refl _).alloc (.cells #[.int .i64 (u.2.1 : Nat), .int .i64 (u.2.2 : Nat)] 27))))
        have HBl : Hid (Blk ((wr.setCell ⟨n4, 0, none⟩ (.slice (some ⟨g, o + 4, none⟩) Q.length (c - 1))).alloc (.cells #[.int .i64 (u.2.1 : Nat), .int .i64 (u.2.2 : Nat)] 27)) wr.heap.size 27 [.int .i64 (u.2.1 : Nat), .int .i64 (u.2.2 : Nat)]) := by
          have := Blk.new (wr.setCell ⟨n4, 0, none⟩ (.slice (some ⟨g, o + 4, none⟩) Q.length (c - 1))) 27 [.int .i64 (u.2.1 : Nat), .int .i64 (u.2.2 : Nat)]
          rw [World.size_setCell] at this
          exact this
        by_cases h1 : u.2.1 = yp
        · have s1 : (((u.2.1 : Nat) : Int) == (yp : Int)) = true := by simp [h1]
          by_cases h2 : ((u.2.2 : Nat) : Int) ≤ vb
          · have s2 : decide (((u.2.2 : Nat) : Int) ≤ vb) = true := decide_eq_true h2
            rw [decide_eq_true h1, s2] at hgo
            have HE := Lib.hid (HZu.out.found hgo)
            clear h1 h2 HTl HTl1 HTl2 HKp HBl
            go_wp2_with fail
            go_ret
            exact Ret.mk (by rw [HE.out]; rfl) HFp.out.ex
          · have s2 : decide (((u.2.2 : Nat) : Int) ≤ vb) = false := decide_eq_false h2
            rw [decide_eq_true h1, s2] at hgo
            simp only [Bool.and_false] at hgo
            clear h1 h2
            obtain ⟨W3, hW3⟩ : ∃ W3, W3 = (wr.setCell ⟨n4, 0, none⟩ (.slice (some ⟨g, o + 4, none⟩) Q.length (c - 1))).alloc (.cells #[.int .i64 (u.2.1 : Nat), .int .i64 (u.2.2 : Nat)] 27) := ⟨_, rfl⟩
            rw [← hW3] at HFp HKp HBl
            have HC3 := Lib.hid (follow_c (N := 85) (caps := #[.pointer (some ⟨wr.heap.size, 0, none⟩), .pointer (some ⟨n0, 0, none⟩)]) (fits := nxB l u) (fun _ _ => by kernel_rfl) M MA mc n1 n6 n4 n5 w.heap.size S Q _ _ w W3 HM.out hml HMf.out (HKp.out.blk _ _ _ HB1.out (by decide) HH41.out.1) (HKp.out.blk _ _ _ HB6.out (by decide) HH41.out.2) HH41.out HFp.out hsl hql
              (fun m hm w' hx hk => zfit3_c l _ lc u m wr.heap.size n0 w' (HL.out.ex hx) HLs.out HAs.out hub.2 (HMb.out m hm).1 (hk.blk _ _ _ HBl.out (by decide) (Ne.symm hls4)) ((HKp.out.trans hk).blk _ _ _ HB0.out (by decide) (by have := HN.out; omega))))
            have HKq := Lib.hid HKp.out
            have HW3 := Lib.hid hW3
            clear hW3 HKp HFp HBl HTl HTl1 HTl2 HFu HKu
            go_wp2_with fail
            rw [← HW3.out]
            refine (HC3.out).mono ?_
            rintro e9 w6 ⟨rfl, D, A6, c6, hD, hF6, hK6⟩
            have HNx := Lib.hid (HZu.out.next hgo hD)
            have hs6 := HNx.out.size
            have HR6 := Lib.hid (And.intro hF6 (HKq.out.trans hK6))
            simp only [List.length_append, List.length_reverse] at hs6
            simp only [List.length_cons] at hgg hgb
            clear hD hF6 hK6 HC3 HZu
            go_wp2_with fail
            go_roundg (M.length - (D.reverse ++ S).length + (Q ++ D).length)
            case measure => simp only [List.length_append, List.length_reverse]; omega
            case rel => exact ⟨D.reverse ++ S, Q ++ D, A6, c6, Nat.le_refl _, by simp only [List.length_append, List.length_reverse]; omega, Lib.hid ⟨HNx.out, HR6.out.1, HR6.out.2⟩⟩
        · have s1 : (((u.2.1 : Nat) : Int) == (yp : Int)) = false := beq_eq_false_iff_ne.2 (by omega)
          rw [decide_eq_false h1] at hgo
          simp only [Bool.false_and] at hgo
          clear h1
          obtain ⟨W3, hW3⟩ : ∃ W3, W3 = (wr.setCell ⟨n4, 0, none⟩ (.slice (some ⟨g, o + 4, none⟩) Q.length (c - 1))).alloc (.cells #[.int .i64 (u.2.1 : Nat), .int .i64 (u.2.2 : Nat)] 27) := ⟨_, rfl⟩
          rw [← hW3] at HFp HKp HBl
          have HC3 := Lib.hid (follow_c (N := 85) (caps := #[.pointer (some ⟨wr.heap.size, 0, none⟩), .pointer (some ⟨n0, 0, none⟩)]) (fits := nxB l u) (fun _ _ => by kernel_rfl) M MA mc n1 n6 n4 n5 w.heap.size S Q _ _ w W3 HM.out hml HMf.out (HKp.out.blk _ _ _ HB1.out (by decide) HH41.out.1) (HKp.out.blk _ _ _ HB6.out (by decide) HH41.out.2) HH41.out HFp.out hsl hql
            (fun m hm w' hx hk => zfit3_c l _ lc u m wr.heap.size n0 w' (HL.out.ex hx) HLs.out HAs.out hub.2 (HMb.out m hm).1 (hk.blk _ _ _ HBl.out (by decide) (Ne.symm hls4)) ((HKp.out.trans hk).blk _ _ _ HB0.out (by decide) (by have := HN.out; omega))))
          have HKq := Lib.hid HKp.out
          have HW3 := Lib.hid hW3
          clear hW3 HKp HFp HBl HTl HTl1 HTl2 HFu HKu
          go_wp2_with fail
          rw [← HW3.out]
          refine (HC3.out).mono ?_
          rintro e9 w6 ⟨rfl, D, A6, c6, hD, hF6, hK6⟩
          have HNx := Lib.hid (HZu.out.next hgo hD)
          have hs6 := HNx.out.size
          have HR6 := Lib.hid (And.intro hF6 (HKq.out.trans hK6))
          simp only [List.length_append, List.length_reverse] at hs6
          simp only [List.length_cons] at hgg hgb
          clear hD hF6 hK6 HC3 HZu
          go_wp2_with fail
          go_roundg (M.length - (D.reverse ++ S).length + (Q ++ D).length)
          case measure => simp only [List.length_append, List.length_reverse]; omega
          case rel => exact ⟨D.reverse ++ S, Q ++ D, A6, c6, Nat.le_refl _, by simp only [List.length_append, List.length_reverse]; omega, Lib.hid ⟨HNx.out, HR6.out.1, HR6.out.2⟩⟩
end
end Go.Proofs.Ytdenojfbdkdpiaa
