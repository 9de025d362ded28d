/-
  Slices of the call's own at any offset: append, the rest behind the first, the part ahead of the last.
  Conditions: none. Plain lemmas on the model's worlds, no program in sight.
-/
import Derived.Test.YtpmponafjhnegaaGreatDoorBase
import Derived.Laws.AppendOwn
namespace Go.Proofs.YtpmponafjhnegaaGreatDoor
open Go.RowKit
/-- The slice v of n elements of size cells each owns the cells xs, at whatever offset of its block. -/
def OwnO (w : World) (base : Nat) (e : TypeId) (size : Nat) (v : Value) (n : Nat) (xs : List Value) : Prop :=
  xs.length = n * size ∧
  ((v = .slice none 0 0 ∧ n = 0) ∨
   ∃ g o cap cur, v = .slice (some ⟨g, o, none⟩) n cap ∧ base ≤ g ∧ w.heap[g]? = some (.cells cur e (0, 0)) ∧ n ≤ cap ∧ cap ≤ maxLen ∧ o + cap * size ≤ cur.size ∧ (cur.toList.drop o).take (n * size) = xs)
section
variable {w : World} {base : Nat} {e : TypeId} {size : Nat} {v : Value} {n : Nat} {xs : List Value}
theorem OwnO.nil (w : World) (base : Nat) (e : TypeId) (size : Nat) : OwnO w base e size (.slice none 0 0) 0 [] := ⟨by simp, .inl ⟨rfl, rfl⟩⟩
theorem OwnO.of (h : w.ownsRow base e size v n xs) : OwnO w base e size v n xs := by
  refine ⟨h.1, ?_⟩
  rcases h.2 with hn | ⟨g, cap, cur, rfl, hb, hg, h1, h2, h3, h4⟩
  · exact .inl hn
  · exact .inr ⟨g, 0, cap, cur, rfl, hb, hg, h1, h2, by omega, by simpa using h4⟩
theorem OwnO.lt (h : OwnO w base e size v n xs) : ∀ k, v.ownBlock = some k → base ≤ k ∧ k < w.heap.size := by
  intro k hk
  rcases h.2 with ⟨rfl, _⟩ | ⟨g, o, cap, cur, rfl, hb, hg, _⟩
  · simp [Value.ownBlock] at hk
  · simp [Value.ownBlock] at hk
    subst hk
    exact ⟨hb, (Array.getElem?_eq_some_iff.1 hg).1⟩
theorem OwnO.kept {w' : World} {row : Option Nat} (h : OwnO w base e size v n xs) (hg : w.grownBy w' row) (hne : v.ownBlock = none ∨ v.ownBlock ≠ row) : OwnO w' base e size v n xs := by
  refine ⟨h.1, ?_⟩
  rcases h.2 with hn | ⟨g, o, cap, cur, rfl, hb, hgg, rest⟩
  · exact .inl hn
  · refine .inr ⟨g, o, cap, cur, rfl, hb, ?_, rest⟩
    rw [hg.block g (Array.getElem?_eq_some_iff.1 hgg).1 (by simpa [Value.ownBlock] using hne)]
    exact hgg
theorem OwnO.ex {w' : World} (h : OwnO w base e size v n xs) (hx : Ex w w') : OwnO w' base e size v n xs := by
  refine ⟨h.1, ?_⟩
  rcases h.2 with hn | ⟨g, o, cap, cur, rfl, hb, hgg, rest⟩
  · exact .inl hn
  · exact .inr ⟨g, o, cap, cur, rfl, hb, (hx.below.block g (Array.getElem?_eq_some_iff.1 hgg).1).trans hgg, rest⟩
/-- another block's cell is written -/
theorem OwnO.set_ (h : OwnO w base e size v n xs) {p : Addr} (hp : v.ownBlock ≠ some p.block) (u : Value) : OwnO (w.setCell p u) base e size v n xs := by
  refine ⟨h.1, ?_⟩
  rcases h.2 with hn | ⟨g, o, cap, cur, rfl, hb, hgg, rest⟩
  · exact .inl hn
  · refine .inr ⟨g, o, cap, cur, rfl, hb, ?_, rest⟩
    rw [Below.heap_setCell w p u g (by simpa [Value.ownBlock] using hp)]
    exact hgg
theorem OwnO.mono {b : Nat} (h : OwnO w base e size v n xs) (hb : b ≤ base) : OwnO w b e size v n xs := by
  refine ⟨h.1, ?_⟩
  rcases h.2 with hn | ⟨g, o, cap, cur, rfl, hb', hgg, rest⟩
  · exact .inl hn
  · exact .inr ⟨g, o, cap, cur, rfl, Nat.le_trans hb hb', hgg, rest⟩
/-- opened where it is not empty -/
theorem OwnO.open_ (h : OwnO w base e size v n xs) (hn : 0 < n) : ∃ g o cap, v = .slice (some ⟨g, o, none⟩) n cap ∧ n ≤ cap ∧ cap ≤ maxLen ∧ base ≤ g ∧ g < w.heap.size ∧ (∀ j u, xs[j]? = some u → w.cell? ⟨g, o + j, none⟩ = some u) := by
  rcases h.2 with ⟨-, hn'⟩ | ⟨g, o, cap, cur, rfl, hb, hgg, h1, h2, h3, h4⟩
  · omega
  · refine ⟨g, o, cap, rfl, h1, h2, hb, (Array.getElem?_eq_some_iff.1 hgg).1, fun j u hj => ?_⟩
    rw [cell_of_row w g _ cur e (0, 0) hgg]
    rw [← h4, List.getElem?_take] at hj
    split at hj
    · simpa using hj
    · cases hj
theorem OwnO.len (h : OwnO w base e size v n xs) : ∃ a c, v = .slice a n c ∧ n ≤ c ∧ c ≤ maxLen := by
  rcases h.2 with ⟨rfl, rfl⟩ | ⟨g, o, cap, cur, rfl, -, -, h1, h2, -⟩
  · exact ⟨none, 0, rfl, Nat.le_refl _, by simp [maxLen]⟩
  · exact ⟨_, cap, rfl, h1, h2⟩
/-- without the last ones -/
theorem OwnO.init {g o cap k : Nat} (h : OwnO w base e size (.slice (some ⟨g, o, none⟩) n cap) n xs) (hk : k ≤ n) : OwnO w base e size (.slice (some ⟨g, o, none⟩) k cap) k (xs.take (k * size)) := by
  have hmul : k * size ≤ n * size := Nat.mul_le_mul_right _ hk
  refine ⟨by rw [List.length_take, h.1]; omega, ?_⟩
  rcases h.2 with ⟨h0, _⟩ | ⟨g', o', cap', cur, he, hb, hgg, h1, h2, h3, h4⟩
  · cases h0
  · cases he
    refine .inr ⟨g, o, cap, cur, rfl, hb, hgg, by omega, h2, h3, ?_⟩
    rw [← h4, List.take_take]
    congr 1
    omega
/-- without the first one -/
theorem OwnO.tail {g o cap : Nat} (h : OwnO w base e size (.slice (some ⟨g, o, none⟩) (n + 1) cap) (n + 1) xs) : OwnO w base e size (.slice (some ⟨g, o + size, none⟩) n (cap - 1)) n (xs.drop size) := by
  have hlen := h.1
  rw [Nat.succ_mul] at hlen
  refine ⟨by rw [List.length_drop, hlen]; omega, ?_⟩
  rcases h.2 with ⟨h0, _⟩ | ⟨g', o', cap', cur, he, hb, hgg, h1, h2, h3, h4⟩
  · cases h0
  · cases he
    obtain ⟨c, rfl⟩ : ∃ c, cap = c + 1 := ⟨cap - 1, by omega⟩
    rw [Nat.succ_mul] at h3
    refine .inr ⟨g, o + size, c, cur, rfl, hb, hgg, by omega, by omega, by omega, ?_⟩
    rw [← h4, List.drop_take, List.drop_drop, Nat.succ_mul, Nat.add_sub_cancel]
/-- without the only one that there is room for -/
theorem OwnO.tail1 {g o : Nat} (h : OwnO w base e size (.slice (some ⟨g, o, none⟩) 1 1) 1 xs) : OwnO w base e size (.slice (some ⟨g, o, none⟩) 0 0) 0 [] := by
  refine ⟨by simp, ?_⟩
  rcases h.2 with ⟨h0, _⟩ | ⟨g', o', cap', cur, he, hb, hgg, h1, h2, h3, h4⟩
  · cases h0
  · cases he
    exact .inr ⟨g, o, 0, cur, rfl, hb, hgg, Nat.le_refl _, by simp [maxLen], by omega, by simp⟩
end
section
variable {P : Program} (w : World)
theorem run_append_roomO (t ty e : TypeId) (i : TypeInfo) (ht : P.underlying t = some (.slice e)) (hi : P.info? e = some i)
    (g o sLen sCap : Nat) (cur : Array Value) (hg : w.heap[g]? = some (.cells cur e (0, 0)))
    (a : Addr) (m c : Nat) (news : List Value) (hl : news.length = m * i.size) (hnews : ∀ j u, news[j]? = some u → w.cell? (a.add j) = some u) (h1 : ∀ u ∈ news, u.oneCell' = true)
    (hroom : sLen + m ≤ sCap) (hfit : o + sLen * i.size + news.length ≤ cur.size) :
    (Builtin.append_ #[t, t] ty #[.slice (some ⟨g, o, none⟩) sLen sCap, .slice (some a) m c]).run P w =
      .ok (.slice (some ⟨g, o, none⟩) (sLen + m) sCap) (w.setRow g (cur.toList.take (o + sLen * i.size) ++ news ++ cur.toList.drop (o + sLen * i.size + news.length)).toArray) := by
  have hf := run_firstCells_some (P := P) w i.size m a m c news hl hnews
  have hst := run_storeCells_at P g (o + sLen * i.size) e news 0 cur w hg (by simpa using hfit) h1
  simp only [Nat.add_zero] at hst
  have hadd : (⟨g, o, none⟩ : Addr).add (sLen * i.size) = ⟨g, o + sLen * i.size, none⟩ := by
    unfold Addr.add; split
    · rename_i h0; rw [h0]; rfl
    · rfl
  simp [Builtin.append_, run_underlying ht, sizeOf, typeInfo, hi, Builtin.lenOf, hroom, hf, hadd, hst]
theorem run_append_ownO (base : Nat) (t ty e : TypeId) (i : TypeInfo) (z : Value) (size bytes : Nat) (ht : P.underlying t = some (.slice e)) (hi : P.info? e = some i) (hz : i.zero = some z)
    (hsize : i.size = size) (hby : i.bytes = bytes) (hzs : z.cells.size = size)
    (v : Value) (n : Nat) (xs : List Value) (hown : OwnO w base e size v n xs)
    (a : Addr) (m c : Nat) (news : List Value) (hl : news.length = m * size) (hnews : ∀ j u, news[j]? = some u → w.cell? (a.add j) = some u) (h1 : ∀ u ∈ news, u.oneCell' = true)
    (h63 : n + m ≤ maxLen) (hbytes : (n + m) * bytes ≤ 140737488355328) (hbase : base ≤ w.heap.size) :
    ∃ v' w', (Builtin.append_ #[t, t] ty #[v, .slice (some a) m c]).run P w = .ok v' w' ∧ OwnO w' base e size v' (n + m) (xs ++ news) ∧ w.grownBy w' v.ownBlock ∧
      (v'.ownBlock = v.ownBlock ∨ v'.ownBlock = some w.heap.size) := by
  subst hsize
  subst hby
  rcases hown.2 with ⟨rfl, rfl⟩ | ⟨g, o, cap, cur, rfl, hbg, hg, hnc, hcm, hcs, htake⟩
  · have hx : xs = [] := List.eq_nil_of_length_eq_zero (by simpa using hown.1)
    subst hx
    by_cases hm : m = 0
    · subst hm
      have hn : news = [] := List.eq_nil_of_length_eq_zero (by simpa using hl)
      subst hn
      refine ⟨.slice none 0 0, w, ?_, OwnO.nil w base e i.size, ⟨rfl, rfl, rfl, Nat.le_refl _, fun _ _ _ => rfl⟩, Or.inl rfl⟩
      simp [Builtin.append_, run_underlying ht, sizeOf, typeInfo, hi, Builtin.lenOf, Builtin.firstCells, loadCells, loadCellsFrom]
    · have hm63 : m ≤ 9223372036854775807 := by simp only [maxLen] at h63; omega
      have hr := run_append_nil (P := P) w t ty e i z ht hi hz a m c news hl hnews (by omega) (by omega) (by have hb := hbytes; simp only [Nat.zero_add] at hb; omega)
      have hge := grownCap_ge w m 0 e
      have hcm : grownCap w m 0 e ≤ maxLen := grownCap_le_maxLen w m 0 e (by simpa using h63)
      refine ⟨_, _, hr, ⟨by simpa using hl, .inr ⟨w.heap.size, 0, _, _, by rw [Nat.zero_add], hbase, heap_alloc_new w.drew _, by simpa using hge, hcm, ?_, ?_⟩⟩, ⟨rfl, rfl, rfl, by simp, fun k hk _ => heap_alloc_old w.drew _ hk⟩, Or.inr rfl⟩
      · simp only [Array.size_append, List.size_toArray, size_zeroCells, hzs, hl, ← Nat.add_mul, Nat.zero_add]
        exact Nat.mul_le_mul_right _ (by omega)
      · simp only [Array.toList_append, List.drop_zero, Nat.zero_add, List.nil_append, ← hl]
        exact List.take_left
  · have hsmall : n + m ≤ 9223372036854775807 := by simp only [maxLen] at h63; omega
    have hlen : (xs ++ news).length = (n + m) * i.size := by rw [List.length_append, hown.1, hl, Nat.add_mul]
    by_cases hroom : n + m ≤ cap
    · have hmul : (n + m) * i.size ≤ cap * i.size := Nat.mul_le_mul_right _ hroom
      have hfit : o + n * i.size + news.length ≤ cur.size := by rw [hl]; rw [Nat.add_mul] at hmul; omega
      have hr := run_append_roomO (P := P) w t ty e i ht hi g o n cap cur hg a m c news hl hnews h1 hroom hfit
      refine ⟨_, _, hr, ⟨hlen, .inr ⟨g, o, cap, _, rfl, hbg, setRow_heap w g cur _ e _ hg, hroom, hcm, ?_, ?_⟩⟩, ⟨rfl, rfl, rfl, by simp, fun k _ hk => setRow_other w g k _ (fun e => hk (by simp [Value.ownBlock, e]))⟩, Or.inl rfl⟩
      · simp only [List.size_toArray, List.length_append, List.length_take, List.length_drop, Array.length_toList]
        omega
      · have hsplit : cur.toList.take (o + n * i.size) = cur.toList.take o ++ xs := by rw [List.take_add, htake]
        have hlo : (cur.toList.take o).length = o := by rw [List.length_take, Array.length_toList]; omega
        rw [hsplit, List.append_assoc, List.append_assoc]
        have : (cur.toList.take o ++ (xs ++ (news ++ cur.toList.drop (o + n * i.size + news.length)))).drop o = xs ++ (news ++ cur.toList.drop (o + n * i.size + news.length)) := by
          conv => lhs; rw [← hlo]
          rw [hlo]
          exact List.drop_left' hlo
        simp only [this]
        rw [← List.append_assoc, ← hlen]
        exact List.take_left
    · have holds : ∀ j u, xs[j]? = some u → w.cell? ((⟨g, o, none⟩ : Addr).add j) = some u := fun j u hu => by
        have hadd : (⟨g, o, none⟩ : Addr).add j = ⟨g, o + j, none⟩ := by
          unfold Addr.add; split
          · rename_i h0; rw [h0]; rfl
          · rfl
        rw [hadd, cell_of_row w g _ cur e (0, 0) hg]
        rw [← htake, List.getElem?_take] at hu
        split at hu
        · simpa using hu
        · cases hu
      have hr := run_append_grow (P := P) w t ty e i z ht hi hz ⟨g, o, none⟩ n cap xs hown.1 holds a m c news hl hnews (by omega) (by omega) (growslice_fits (by omega) hbytes)
      have hge := grownCap_ge w (n + m) cap e
      have hcm2 : grownCap w (n + m) cap e ≤ maxLen := grownCap_le_maxLen w (n + m) cap e h63
      refine ⟨_, _, hr, ⟨hlen, .inr ⟨w.heap.size, 0, _, _, rfl, hbase, heap_alloc_new w.drew _, hge, hcm2, ?_, ?_⟩⟩, ⟨rfl, rfl, rfl, by simp, fun k hk _ => heap_alloc_old w.drew _ hk⟩, Or.inr rfl⟩
      · simp only [Array.size_append, List.size_toArray, size_zeroCells, hzs, hown.1, hl, ← Nat.add_mul, Nat.zero_add]
        exact Nat.mul_le_mul_right _ (by omega)
      · simp only [Array.toList_append, List.append_assoc, List.drop_zero]
        rw [← List.append_assoc, ← hlen]
        exact List.take_left
theorem wpList_append_ownO {ops : Array Oper} {rest : List Oper} {o : Oper} {a : Act} {Q : Exit → Act → World → Prop} (hgd : o.guard = none) (s x : Operand) (t : TypeId)
    (ho : o.op = .call { callee := .builtin .append, args := #[s, x], argTypes := #[t, t] })
    (base : Nat) (e : TypeId) (i : TypeInfo) (z : Value) (size bytes : Nat) (ht : P.underlying t = some (.slice e)) (hi : P.info? e = some i) (hz : i.zero = some z)
    (hsize : i.size = size) (hby : i.bytes = bytes) (hzs : z.cells.size = size)
    (v : Value) (n : Nat) (xs : List Value) (hs : a.eval s = v) (hown : OwnO w base e size v n xs)
    (ad : Addr) (m c : Nat) (news : List Value) (hx : a.eval x = .slice (some ad) m c) (hl : news.length = m * size) (hnews : ∀ j u, news[j]? = some u → w.cell? (ad.add j) = some u) (h1 : ∀ u ∈ news, u.oneCell' = true)
    (h63 : n + m ≤ maxLen) (hbytes : (n + m) * bytes ≤ 140737488355328) (hbase : base ≤ w.heap.size)
    (h : ∀ v' w', OwnO w' base e size v' (n + m) (xs ++ news) → w.grownBy w' v.ownBlock → (v'.ownBlock = v.ownBlock ∨ v'.ownBlock = some w.heap.size) → wpList P ops Q rest (a.put o.dst v') w') : wpList P ops Q (o :: rest) a w := by
  refine wpList_plain hgd fun K hK => ?_
  obtain ⟨v', w', hr, h2, h3, h4⟩ := run_append_ownO (P := P) w base t o.type e i z size bytes ht hi hz hsize hby hzs v n xs hown ad m c news hl hnews h1 h63 hbytes hbase
  unfold Oper.wp execOp
  simp only [ho, resolve, invoke, builtin, Sem.run_bind, Sem.run_pure, Result.andThen_ok, List.map_toArray, List.map_cons, List.map_nil, hs, hx, hr]
  exact hK _ _ (h v' w' h2 h3 h4)
/-- one element more, which lies in a block of its own -/
theorem wpList_append_one {ops : Array Oper} {rest : List Oper} {o : Oper} {a : Act} {Q : Exit → Act → World → Prop} (hgd : o.guard = none) (s x : Operand) (t : TypeId)
    (ho : o.op = .call { callee := .builtin .append, args := #[s, x], argTypes := #[t, t] })
    (base : Nat) (e : TypeId) (i : TypeInfo) (z : Value) (size bytes : Nat) (ht : P.underlying t = some (.slice e)) (hi : P.info? e = some i) (hz : i.zero = some z)
    (hsize : i.size = size) (hby : i.bytes = bytes) (hzs : z.cells.size = size)
    (v : Value) (n : Nat) (xs : List Value) (hs : a.eval s = v) (hown : OwnO w base e size v n xs)
    (nb : Nat) (news : List Value) (hx : a.eval x = .slice (some ⟨nb, 0, none⟩) 1 1) (hl : news.length = size) (hnews : ∀ j u, news[j]? = some u → w.cell? ⟨nb, j, none⟩ = some u) (h1 : ∀ u ∈ news, u.oneCell' = true)
    (h63 : n ≤ 1000000000) (hb100 : bytes ≤ 1000) (hbase : base ≤ w.heap.size)
    (h : ∀ A c w', OwnO w' base e size (.slice A (n + 1) c) (n + 1) (xs ++ news) → w.grownBy w' v.ownBlock → ((Value.slice A (n + 1) c).ownBlock = v.ownBlock ∨ (Value.slice A (n + 1) c).ownBlock = some w.heap.size) → (∀ a0, Ex a0 w → a0.heap.size ≤ base → Ex a0 w') → wpList P ops Q rest (a.put o.dst (.slice A (n + 1) c)) w') : wpList P ops Q (o :: rest) a w := by
  refine wpList_append_ownO w hgd s x t ho base e i z size bytes ht hi hz hsize hby hzs v n xs hs hown ⟨nb, 0, none⟩ 1 1 news hx (by rw [Nat.one_mul]; exact hl) (fun j u hj => ?_) h1 (by unfold maxLen; omega) ?_ hbase fun v' w' h2 h3 h4 => ?_
  · have hadd : (⟨nb, 0, none⟩ : Addr).add j = ⟨nb, j, none⟩ := by
      unfold Addr.add; split
      · rename_i h0; rw [h0]
      · simp
    rw [hadd]
    exact hnews j u hj
  · have := Nat.mul_le_mul (show n + 1 ≤ 1000000001 by omega) hb100
    omega
  · obtain ⟨A, c, rfl, -, -⟩ := h2.len
    exact h A c w' h2 h3 h4 fun a0 hx0 hb0 => hx0.grown h3 fun k hk => Nat.le_trans hb0 (hown.lt k hk).1
end
/-- a row of another type is another block -/
theorem OwnO.ne {w : World} {base : Nat} {e : TypeId} {size : Nat} {v : Value} {n : Nat} {xs : List Value} (h : OwnO w base e size v n xs) {g t : Nat} {cs : List Value} (hB : Blk w g t cs) (hne : t ≠ e) : some g ≠ v.ownBlock := by
  rcases h.2 with ⟨rfl, _⟩ | ⟨g', o, cap, cur, rfl, hb, hgg, _⟩
  · simp [Value.ownBlock]
  · intro he
    simp only [Value.ownBlock, Option.some.injEq] at he
    subst he
    unfold Blk at hB
    rw [hB] at hgg
    injection hgg with hgg
    injection hgg with _ ht
    exact hne ht
/-- rows of two types -/
theorem OwnO.ne2 {w : World} {base base' : Nat} {e e' : TypeId} {size size' : Nat} {v v' : Value} {n n' : Nat} {xs xs' : List Value} (h : OwnO w base e size v n xs) (h' : OwnO w base' e' size' v' n' xs') (hne : e ≠ e') : v.ownBlock = none ∨ v.ownBlock ≠ v'.ownBlock := by
  rcases h.2 with ⟨rfl, _⟩ | ⟨g, o, cap, cur, rfl, hb, hgg, _⟩
  · exact .inl rfl
  · right
    rcases h'.2 with ⟨rfl, _⟩ | ⟨g', o', cap', cur', rfl, hb', hgg', _⟩
    · simp [Value.ownBlock]
    · intro he
      simp only [Value.ownBlock, Option.some.injEq] at he
      subst he
      rw [hgg] at hgg'
      injection hgg' with hgg'
      injection hgg' with _ ht
      exact hne ht
theorem news_new {W w : World} {nb t : Nat} {cs : List Value} (hw : w = W.alloc (.cells cs.toArray t)) (hn : nb = W.heap.size) : ∀ (j : Nat) (u : Value), cs[j]? = some u → w.cell? ⟨nb, j, none⟩ = some u := fun j u hj => by
  subst hw hn
  rw [(Blk.new W t cs).cell j]
  exact hj
theorem one_ints {l : List Value} (h : ∀ u ∈ l, ∃ k : Int, u = .int .i64 k) : ∀ u ∈ l, u.oneCell' = true := fun u hu => by
  obtain ⟨k, rfl⟩ := h u hu
  rfl
theorem Blk.grown {w w' : World} {g t : Nat} {cs : List Value} {row : Option Nat} (h : Blk w g t cs) (hg : w.grownBy w' row) (hne : some g ≠ row) : Blk w' g t cs := (hg.block g h.lt hne).trans h
end Go.Proofs.YtpmponafjhnegaaGreatDoor
