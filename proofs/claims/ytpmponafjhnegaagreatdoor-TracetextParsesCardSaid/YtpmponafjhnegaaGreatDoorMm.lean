/-
  Parse: sizes of what was read; the peers of the events, found one after the other; where a fault stands.
  Conditions: as each theorem says.
-/
import Derived.Test.YtpmponafjhnegaaGreatDoorMj
namespace Go.Proofs.YtpmponafjhnegaaGreatDoor
open Go.RowKit Nu
theorem infoPlc : (Tryz.prog.info? 109).map (fun i => (i.zero, i.size, i.bytes)) = some (some (.agg #[.int .i64 0, .int .i64 0, .string ⟨#[]⟩]), 3, 32) := by kernel_rfl
theorem infoPrc : (Tryz.prog.info? 35).map (fun i => (i.zero, i.size, i.bytes)) = some (some (.agg #[.string ⟨#[]⟩, .slice none 0 0, .slice none 0 0]), 3, 64) := by kernel_rfl
theorem infoVr : (Tryz.prog.info? 71).map (fun i => (i.zero, i.size, i.bytes)) = some (some (.agg #[.string ⟨#[]⟩, .int .i64 0]), 2, 24) := by kernel_rfl
theorem infoRow : (Tryz.prog.info? 107).map (fun i => (i.zero, i.size, i.bytes)) = some (some (.slice none 0 0), 1, 24) := by kernel_rfl
theorem nameB_size {s : ByteArray} (h : nameB s = true) : s.size ≤ 16 := by
  unfold nameB at h
  simp only [Bool.and_eq_true, decide_eq_true_eq] at h
  exact h.1.1.2
theorem stepP_vars {s s' : PS} {w : List UInt8} {col : Nat} (h : stepP s w col = .ok s') : s'.vars.length ≤ s.vars.length + 1 := by
  unfold stepP at h
  repeat' split at h
  all_goals first
    | (cases h; done)
    | (cases h; simp; done)
    | (cases h; exact Nat.le_succ _)
theorem runP_vars : ∀ {ws : List (List UInt8)} {s s' : PS} {col : Nat}, runW stepP s ws col = .ok s' → s'.vars.length ≤ s.vars.length + ws.length
  | [], s, s', col, h => by cases h; exact Nat.le_refl _
  | w :: ws, s, s', col, h => by
    unfold runW at h
    cases hs : stepP s w col with
    | error e => rw [hs] at h; cases h
    | ok s2 =>
      rw [hs] at h
      have h1 := stepP_vars hs
      have h2 := runP_vars h
      simp only [List.length_cons]
      omega
theorem pcL_small {line : List UInt8} {S : PS} (h : pcL line = .ok S) : S.name.size ≤ 16 ∧ (∀ v ∈ S.vars, v.1.size ≤ 16) ∧ S.vars.length ≤ line.length + 1 := by
  have hk := pcL_inv h
  refine ⟨nameB_size (hk.2.1.nm (by rw [hk.1]; exact Nat.le_refl _)), fun v hv => nameB_size (hk.2.1.vars v hv).1, ?_⟩
  unfold pcL at h
  cases hr : runW stepP ps0 (spl 32 line) 1 with
  | error x => rw [hr] at h; cases h
  | ok s =>
    rw [hr] at h
    dsimp only at h
    split at h
    · cases h
    · cases h
      have := runP_vars hr
      have := (spl_lens 32 line).1
      simp only [ps0, List.length_nil] at *
      omega
def totN : List RP → Nat
  | [] => 0
  | p :: l => p.evs.length + totN l
theorem totN_app : ∀ a b : List RP, totN (a ++ b) = totN a + totN b
  | [], b => by simp [totN]
  | p :: a, b => by
    have h1 : totN (p :: a ++ b) = p.evs.length + totN (a ++ b) := rfl
    have h2 : totN (p :: a) = p.evs.length + totN a := rfl
    rw [h1, h2, totN_app a b]
    omega
/-- how large what has been read may be -/
structure RSm (n : Nat) (ps : List RP) : Prop where
  procs : ps.length ≤ n
  total : totN ps ≤ n
  each : ∀ p ∈ ps, p.name.size ≤ 20000 ∧ p.vars.length ≤ 20000 ∧ p.evs.length ≤ n ∧ (∀ v ∈ p.vars, v.1.size ≤ 20000) ∧ ∀ e ∈ p.evs, e.ev.asg.length ≤ 20000
theorem RSm.nil (n : Nat) : RSm n [] := ⟨Nat.zero_le _, Nat.zero_le _, fun _ h => absurd h List.not_mem_nil⟩
theorem RSm.ev {n : Nat} {p0 : List RP} {p : RP} {re : RE} (h : RSm n (p0 ++ [p])) (ha : re.ev.asg.length ≤ 20000) : RSm (n + 1) (p0 ++ [{ p with evs := p.evs ++ [re] }]) := by
  refine ⟨?_, ?_, fun q hq => ?_⟩
  · have := h.procs
    simp at this ⊢
    omega
  · have := h.total
    rw [totN_app] at this ⊢
    simp [totN] at this ⊢
    omega
  · rcases List.mem_append.1 hq with hq | hq
    · obtain ⟨h1, h2, h3, h4, h5⟩ := h.each q (List.mem_append_left _ hq)
      exact ⟨h1, h2, by omega, h4, h5⟩
    · rw [List.mem_singleton.1 hq]
      obtain ⟨h1, h2, h3, h4, h5⟩ := h.each p (by simp)
      refine ⟨h1, h2, by simp; omega, h4, fun e he => ?_⟩
      rcases List.mem_append.1 he with he | he
      · exact h5 e he
      · rw [List.mem_singleton.1 he]; exact ha
theorem RSm.pr {n : Nat} {ps : List RP} {p : RP} (h : RSm n ps) (hn : p.name.size ≤ 20000) (hv : p.vars.length ≤ 20000) (hvs : ∀ v ∈ p.vars, v.1.size ≤ 20000) (he : p.evs = []) : RSm (n + 1) (ps ++ [p]) := by
  refine ⟨?_, ?_, fun q hq => ?_⟩
  · have := h.procs
    simp
    omega
  · have := h.total
    rw [totN_app]
    simp [totN, he]
    omega
  · rcases List.mem_append.1 hq with hq | hq
    · obtain ⟨h1, h2, h3, h4, h5⟩ := h.each q hq
      exact ⟨h1, h2, by omega, h4, h5⟩
    · rw [List.mem_singleton.1 hq]
      exact ⟨hn, hv, by rw [he]; exact Nat.zero_le _, hvs, fun e h => by rw [he] at h; exact absurd h List.not_mem_nil⟩
/-- the event of a line, its peer found -/
def rE (ns : List ByteArray) (e : RE) : Ev := match resE ns e with | .ok v => v | .error _ => e.ev
def rP (ns : List ByteArray) (p : RP) : Pr := ⟨p.name, p.vars, p.evs.map (rE ns)⟩
def okE (ns : List ByteArray) (e : RE) : Prop := ∃ v, resE ns e = .ok v
theorem rE_asg (ns : List ByteArray) (e : RE) : (rE ns e).asg = e.ev.asg := by
  unfold rE resE
  split
  · rename_i v h
    split at h
    · cases h; rfl
    · split at h
      · cases h
      · cases h; rfl
  · rfl
theorem rE_zero {ns : List ByteArray} {e : RE} (h : e.peer.size = 0) : rE ns e = e.ev ∧ okE ns e := by
  have hr : resE ns e = .ok e.ev := by unfold resE; rw [if_pos h]
  exact ⟨by unfold rE; rw [hr], _, hr⟩
theorem rE_some {ns : List ByteArray} {e : RE} {z : Nat} (h : e.peer.size ≠ 0) (hz : pIdx e.peer ns = some z) : rE ns e = { e.ev with peer := (z : Int) } ∧ okE ns e := by
  have hr : resE ns e = .ok { e.ev with peer := (z : Int) } := by unfold resE; rw [if_neg h, hz]
  exact ⟨by unfold rE; rw [hr], _, hr⟩
theorem resEs_all {ns : List ByteArray} : ∀ es : List RE, (∀ e ∈ es, okE ns e) → resEs ns es = .ok (es.map (rE ns))
  | [], _ => rfl
  | e :: es, h => by
    obtain ⟨v, hv⟩ := h e (by simp)
    have h1 : rE ns e = v := by unfold rE; rw [hv]
    rw [resEs_cons, hv, resEs_all es fun x hx => h x (List.mem_cons_of_mem _ hx), List.map_cons, h1]
theorem resPs_all {ns : List ByteArray} : ∀ ps : List RP, (∀ p ∈ ps, ∀ e ∈ p.evs, okE ns e) → resPs ns ps = .ok (ps.map (rP ns))
  | [], _ => rfl
  | p :: ps, h => by
    rw [resPs_cons, resEs_all p.evs (h p (by simp)), resPs_all ps fun x hx => h x (List.mem_cons_of_mem _ hx), List.map_cons]
    rfl
def DoneP (p i k j : Nat) : Prop := k < p ∨ (k = p ∧ j < i)
/-- the peers of the events before a place are found -/
structure Peers (ns : List ByteArray) (ps : List RP) (ms : List PM) (p i : Nat) : Prop where
  len : ms.length = ps.length
  head : ∀ (k : Nat) m q, ms[k]? = some m → ps[k]? = some q → m.name = q.name ∧ m.vars = q.vars ∧ m.mes.length = q.evs.length
  ev : ∀ (k : Nat) m q, ms[k]? = some m → ps[k]? = some q → ∀ (j : Nat) x e, m.mes[j]? = some x → q.evs[j]? = some e → (DoneP p i k j → x.e = rE ns e) ∧ (¬ DoneP p i k j → x.e = e.ev)
  ok : ∀ (k : Nat) q, ps[k]? = some q → ∀ (j : Nat) e, q.evs[j]? = some e → DoneP p i k j → okE ns e
theorem map_at {α β γ : Type} {f : α → γ} {g : β → γ} {l : List α} {m : List β} (h : l.map f = m.map g) {k : Nat} {a : α} {b : β} (ha : l[k]? = some a) (hb : m[k]? = some b) : f a = g b := by
  have h1 : (l.map f)[k]? = some (f a) := by rw [List.getElem?_map, ha]; rfl
  have h2 : (m.map g)[k]? = some (g b) := by rw [List.getElem?_map, hb]; rfl
  rw [h, h2] at h1
  injection h1 with h1
  exact h1.symm
theorem map_of_at {α β γ : Type} {f : α → γ} {g : β → γ} {l : List α} {m : List β} (hl : l.length = m.length) (h : ∀ (k : Nat) a b, l[k]? = some a → m[k]? = some b → f a = g b) : l.map f = m.map g := by
  refine List.ext_getElem? fun k => ?_
  rw [List.getElem?_map, List.getElem?_map]
  by_cases hk : k < l.length
  · have h1 := List.getElem?_eq_getElem hk
    have h2 := List.getElem?_eq_getElem (hl ▸ hk : k < m.length)
    rw [h1, h2, Option.map_some, Option.map_some, h k _ _ h1 h2]
  · rw [List.getElem?_eq_none (by omega), List.getElem?_eq_none (by omega)]
    rfl
section
variable {ns : List ByteArray} {ps : List RP} {ms : List PM} {p i : Nat}
theorem Peers.start (h : ms.map PM.pr = ps.map RP.pr) : Peers ns ps ms 0 0 := by
  refine ⟨by have := congrArg List.length h; simpa using this, fun k m q hm hq => ?_, fun k m q hm hq j x e hx he => ⟨fun hd => ?_, fun _ => ?_⟩, fun k q _ j e _ hd => ?_⟩
  · have h1 := map_at h hm hq
    exact ⟨congrArg Pr.name h1, congrArg Pr.vars h1, by have := congrArg (fun y : Pr => y.evs.length) h1; simpa [PM.pr, RP.pr] using this⟩
  · rcases hd with hd | ⟨-, hd⟩ <;> omega
  · have h1 : m.mes.map (·.e) = q.evs.map (·.ev) := congrArg Pr.evs (map_at h hm hq)
    exact map_at h1 hx he
  · rcases hd with hd | ⟨-, hd⟩ <;> omega
theorem Peers.names (h : Peers ns ps ms p i) : (ms.map PM.pr).map (·.name) = ps.map (·.name) := by
  rw [List.map_map]
  exact map_of_at h.len fun k m q hm hq => (h.head k m q hm hq).1
theorem done_step {p i k j : Nat} (h : DoneP p (i + 1) k j) : DoneP p i k j ∨ (k = p ∧ j = i) := by
  rcases h with h | ⟨h, h2⟩
  · exact .inl (.inl h)
  · rcases Nat.lt_or_ge j i with h3 | h3
    · exact .inl (.inr ⟨h, h3⟩)
    · exact .inr ⟨h, by omega⟩
theorem done_up {p i k j : Nat} (h : DoneP p i k j) : DoneP p (i + 1) k j := by
  rcases h with h | ⟨h, h2⟩
  · exact .inl h
  · exact .inr ⟨h, by omega⟩
theorem Peers.skip {q : RP} {e : RE} (h : Peers ns ps ms p i) (hq : ps[p]? = some q) (he : q.evs[i]? = some e) (h0 : e.peer.size = 0) : Peers ns ps ms p (i + 1) := by
  obtain ⟨z1, z2⟩ := rE_zero (ns := ns) h0
  refine ⟨h.len, h.head, fun k m q' hm hq' j x e' hx he' => ⟨fun hd => ?_, fun hd => (h.ev k m q' hm hq' j x e' hx he').2 fun h1 => hd (done_up h1)⟩, fun k q' hq' j e' he' hd => ?_⟩
  · rcases done_step hd with hd' | ⟨rfl, rfl⟩
    · exact (h.ev k m q' hm hq' j x e' hx he').1 hd'
    · rw [hq] at hq'
      cases hq'
      rw [he] at he'
      cases he'
      rw [z1]
      refine (h.ev k m q hm hq j x e hx he).2 fun hd' => ?_
      rcases hd' with hd' | ⟨-, hd'⟩ <;> omega
  · rcases done_step hd with hd' | ⟨rfl, rfl⟩
    · exact h.ok k q' hq' j e' he' hd'
    · rw [hq] at hq'
      cases hq'
      rw [he] at he'
      cases he'
      exact z2
theorem Peers.put {q : RP} {e : RE} {m : PM} {x : ME} {z : Nat} (h : Peers ns ps ms p i) (hq : ps[p]? = some q) (he : q.evs[i]? = some e) (h0 : e.peer.size ≠ 0) (hz : pIdx e.peer ns = some z) (hm : ms[p]? = some m) (hx : m.mes[i]? = some x) :
    Peers ns ps (ms.set p { m with mes := m.mes.set i (x.tq (z : Int)) }) p (i + 1) := by
  obtain ⟨z1, z2⟩ := rE_some (ns := ns) h0 hz
  have hpl := (List.getElem?_eq_some_iff.1 hm).1
  have hil := (List.getElem?_eq_some_iff.1 hx).1
  refine ⟨by rw [List.length_set]; exact h.len, fun k m' q' hm' hq' => ?_, fun k m' q' hm' hq' j x' e' hx' he' => ?_, fun k q' hq' j e' he' hd => ?_⟩
  · by_cases hk : k = p
    · subst hk
      rw [List.getElem?_set_self hpl] at hm'
      cases hm'
      have := h.head k m q' hm hq'
      exact ⟨this.1, this.2.1, by rw [List.length_set]; exact this.2.2⟩
    · rw [List.getElem?_set_ne (fun e => hk e.symm)] at hm'
      exact h.head k m' q' hm' hq'
  · by_cases hk : k = p
    · subst hk
      rw [List.getElem?_set_self hpl] at hm'
      cases hm'
      rw [hq] at hq'
      cases hq'
      dsimp only at hx'
      by_cases hj : j = i
      · subst hj
        rw [List.getElem?_set_self hil] at hx'
        cases hx'
        rw [he] at he'
        cases he'
        refine ⟨fun _ => ?_, fun hd => absurd (.inr ⟨rfl, by omega⟩) hd⟩
        have h1 := (h.ev k m q hm hq j x e hx he).2 fun hd' => by rcases hd' with hd' | ⟨-, hd'⟩ <;> omega
        rw [z1, ← h1]
        rfl
      · rw [List.getElem?_set_ne (fun e => hj e.symm)] at hx'
        have h1 := h.ev k m q hm hq j x' e' hx' he'
        refine ⟨fun hd => ?_, fun hd => h1.2 fun h2 => hd (done_up h2)⟩
        rcases done_step hd with hd' | ⟨-, h3⟩
        · exact h1.1 hd'
        · exact absurd h3 hj
    · rw [List.getElem?_set_ne (fun e => hk e.symm)] at hm'
      have h1 := h.ev k m' q' hm' hq' j x' e' hx' he'
      refine ⟨fun hd => ?_, fun hd => h1.2 fun h2 => hd (done_up h2)⟩
      rcases done_step hd with hd' | ⟨h3, -⟩
      · exact h1.1 hd'
      · exact absurd h3 hk
  · rcases done_step hd with hd' | ⟨rfl, rfl⟩
    · exact h.ok k q' hq' j e' he' hd'
    · rw [hq] at hq'
      cases hq'
      rw [he] at he'
      cases he'
      exact z2
theorem Peers.next {q : RP} (h : Peers ns ps ms p i) (hq : ps[p]? = some q) (hi : i = q.evs.length) : Peers ns ps ms (p + 1) 0 := by
  have hdn : ∀ k q' j e', ps[k]? = some q' → q'.evs[j]? = some e' → (DoneP (p + 1) 0 k j ↔ DoneP p i k j) := fun k q' j e' hq' he' => by
    have hj := (List.getElem?_eq_some_iff.1 he').1
    constructor
    · rintro (h1 | ⟨-, h1⟩)
      · by_cases hk : k = p
        · subst hk
          rw [hq] at hq'
          cases hq'
          exact .inr ⟨rfl, by omega⟩
        · exact .inl (by omega)
      · omega
    · rintro (h1 | ⟨h1, -⟩)
      · exact .inl (by omega)
      · exact .inl (by omega)
  exact ⟨h.len, h.head, fun k m q' hm hq' j x e hx he => ⟨fun hd => (h.ev k m q' hm hq' j x e hx he).1 ((hdn k q' j e hq' he).1 hd), fun hd => (h.ev k m q' hm hq' j x e hx he).2 fun h2 => hd ((hdn k q' j e hq' he).2 h2)⟩, fun k q' hq' j e he hd => h.ok k q' hq' j e he ((hdn k q' j e hq' he).1 hd)⟩
theorem Peers.end_ (h : Peers ns ps ms ps.length 0) : ms.map PM.pr = ps.map (rP ns) ∧ resPs ns ps = .ok (ms.map PM.pr) := by
  have h1 : ms.map PM.pr = ps.map (rP ns) := map_of_at h.len fun k m q hm hq => by
    have hk := (List.getElem?_eq_some_iff.1 hq).1
    obtain ⟨a1, a2, a3⟩ := h.head k m q hm hq
    have a4 : m.mes.map (·.e) = q.evs.map (rE ns) := map_of_at a3 fun j x e hx he => (h.ev k m q hm hq j x e hx he).1 (.inl hk)
    show (⟨m.name, m.vars, m.mes.map (·.e)⟩ : Pr) = ⟨q.name, q.vars, q.evs.map (rE ns)⟩
    rw [a1, a2, a4]
  refine ⟨h1, ?_⟩
  rw [h1]
  refine resPs_all ps fun q hq e he => ?_
  obtain ⟨k, hk⟩ := List.mem_iff_getElem?.1 hq
  obtain ⟨j, hj⟩ := List.mem_iff_getElem?.1 he
  exact h.ok k q hk j e hj (.inl (List.getElem?_eq_some_iff.1 hk).1)
theorem at_split {α : Type} : ∀ {l : List α} {k : Nat} {a : α}, l[k]? = some a → ∃ u v, l = u ++ a :: v ∧ u.length = k
  | [], k, a, h => by simp at h
  | x :: l, 0, a, h => by cases h; exact ⟨[], l, rfl, rfl⟩
  | x :: l, k + 1, a, h => by
    obtain ⟨u, v, e, hu⟩ := at_split (l := l) (k := k) (a := a) (by simpa using h)
    exact ⟨x :: u, v, by rw [e]; rfl, by simp [hu]⟩
theorem Peers.bad {q : RP} {e : RE} (h : Peers ns ps ms p i) (hq : ps[p]? = some q) (he : q.evs[i]? = some e) (h0 : e.peer.size ≠ 0) (hz : pIdx e.peer ns = none) : resPs ns ps = .error (13, e.line, e.col) := by
  obtain ⟨u, v, e1, hu⟩ := at_split hq
  obtain ⟨a, b, e2, ha⟩ := at_split he
  have hr : resE ns e = .error (13, e.line, e.col) := by unfold resE; rw [if_neg h0, hz]
  have h1 : ∀ x ∈ u, ∀ y ∈ x.evs, okE ns y := fun x hx y hy => by
    obtain ⟨k, hk⟩ := List.mem_iff_getElem?.1 hx
    obtain ⟨j, hj⟩ := List.mem_iff_getElem?.1 hy
    have hkl := (List.getElem?_eq_some_iff.1 hk).1
    exact h.ok k x (by rw [e1, List.getElem?_append_left hkl]; exact hk) j y hj (.inl (by omega))
  have h2 : ∀ y ∈ a, okE ns y := fun y hy => by
    obtain ⟨j, hj⟩ := List.mem_iff_getElem?.1 hy
    have hjl := (List.getElem?_eq_some_iff.1 hj).1
    exact h.ok p q hq j y (by rw [e2, List.getElem?_append_left hjl]; exact hj) (.inr ⟨rfl, by omega⟩)
  have h3 : resEs ns q.evs = .error (13, e.line, e.col) := by
    rw [e2, resEs_app, resEs_all a h2, resEs_cons, hr]
  rw [e1, resPs_app, resPs_all u h1, resPs_cons, h3]
theorem sumN_res (ns : List ByteArray) : ∀ ps : List RP, sumN (ps.map (rP ns)) = totN ps
  | [] => rfl
  | p :: ps => by
    rw [List.map_cons]
    unfold sumN totN
    rw [sumN_res ns ps]
    simp [rP]
theorem RSm.tsm {n : Nat} (h : RSm n ps) (hn : n ≤ 20000) : TSm (ps.map (rP ns)) := by
  refine ⟨?_, ?_, fun x hx => ?_⟩
  · have := h.procs
    rw [List.length_map]
    omega
  · have := h.total
    rw [sumN_res]
    omega
  · obtain ⟨p, hp, rfl⟩ := List.mem_map.1 hx
    obtain ⟨h1, h2, h3, h4, h5⟩ := h.each p hp
    refine ⟨by show p.name.size ≤ _; omega, by show p.vars.length ≤ _; omega, by show (p.evs.map _).length ≤ _; rw [List.length_map]; omega, fun v hv => by have := h4 v hv; omega, fun e he => ?_⟩
    obtain ⟨r, hr, rfl⟩ := List.mem_map.1 he
    rw [rE_asg]
    have := h5 r hr
    omega
end
/-- where a fault stands -/
theorem fault_place (t : List Pr) : (faultO t).2 = 0 ∨ (faultO t).2 = 1 ∨ ((faultO t).1.2 = 0 ∧ (faultO t).1.1 < t.length) ∨ InT t (faultO t).1 := by
  unfold faultO
  split
  · exact .inr (.inl rfl)
  · split
    · rename_i h
      exact .inr (.inr (.inl ⟨rfl, (Classical.choose_spec h).1⟩))
    · have hin : ∀ (Q : Nat × Nat → Prop) x, firstE t Q = some x → InT t x := fun Q x hx => by
        unfold firstE at hx
        split at hx
        · rename_i h
          injection hx with hx
          rw [← hx]
          exact (Classical.choose_spec h).1
        · cases hx
      split
      · rename_i x hx
        exact .inr (.inr (.inr (hin _ x hx)))
      · split
        · rename_i x hx
          exact .inr (.inr (.inr (hin _ x hx)))
        · split
          · rename_i x hx
            exact .inr (.inr (.inr (hin _ x hx)))
          · exact .inl rfl
section
variable {w wr w1 : World} {rb pb tb : Nat} {ln : List Nat} {L : Option Addr} {lc : Nat} {Q : Option Addr} {qc : Nat} {A : Option Addr} {ac : Nat} {ms : List PM} {rows : List Sl} {p i : Nat} {m : PM} {x : ME}
theorem PW.peer {ge oe : Nat} (q : Int) (h : PW w rb pb tb ln L lc Q qc wr A ac ms rows) (hp : ms[p]? = some m) (hi : m.mes[i]? = some x) (hE : m.E = some ⟨ge, oe, none⟩) :
    PW w rb pb tb ln L lc Q qc (wr.setCell ⟨ge, oe + (i * 5 + 1), none⟩ (.int .i64 q)) A ac (ms.set p { m with mes := m.mes.set i (x.tq q) }) rows := by
  have hm : OwnO wr rb 38 5 (.slice (some ⟨ge, oe, none⟩) m.mes.length m.ec) m.mes.length (evsV m.mes) := by
    have := h.px.tp.evs m (List.mem_of_getElem? hp)
    unfold Sl.own PM.evSl at this
    rw [hE] at this
    exact this
  have hc := Chg.set hm.rw_ (oe + (i * 5 + 1)) (.int .i64 q)
  refine ⟨⟨?_, h.px.tp.setPeer q hp hi hE, h.px.lines.chg hc (by decide), h.px.sd.chg hc (by decide) (by decide)⟩, h.res.chg hc (by decide), h.pos.chg hc (by decide), h.ex.setCell (p := ⟨ge, oe + (i * 5 + 1), none⟩) (Nat.le_trans h.le (hm.lt ge rfl).1) _, h.le, h.ne, h.let_⟩
  rw [List.length_set]
  exact h.px.cell.chg hc (by decide)
theorem PW.procAt (h : PW w rb pb tb ln L lc Q qc wr A ac ms rows) (hp : ms[p]? = some m) : ∃ ga oa, A = some ⟨ga, oa, none⟩ ∧ ga < wr.heap.size ∧ ms.length ≤ ac ∧ ac ≤ maxLen ∧ wr.cell? ⟨ga, oa + p * 3 + 2, none⟩ = some (.slice m.E m.mes.length m.ec) ∧ m.mes.length ≤ m.ec := by
  have hpos : 0 < ms.length := by have := (List.getElem?_eq_some_iff.1 hp).1; omega
  obtain ⟨ga, oa, cap, he, hc1, hc2, -, hl, hc⟩ := h.px.tp.procs.open_ hpos
  cases he
  obtain ⟨E', ec', hEe, hEc, -⟩ := OwnO.len (h.px.tp.evs m (List.mem_of_getElem? hp))
  cases hEe
  refine ⟨ga, oa, rfl, hl, hc1, hc2, ?_, hEc⟩
  rw [Nat.add_assoc]
  exact hc _ _ (procs_get ms p m hp 2 (by decide))
theorem PW.evCell (h : PW w rb pb tb ln L lc Q qc wr A ac ms rows) (hp : ms[p]? = some m) (hi : m.mes[i]? = some x) : ∃ ge oe, m.E = some ⟨ge, oe, none⟩ ∧ ge < wr.heap.size ∧ wr.cell? ⟨ge, oe + (i * 5 + 1), none⟩ = some (.int .i64 x.e.peer) ∧ ∀ j, wr.frozen? ⟨ge, j, none⟩ = false := by
  have hpos : 0 < m.mes.length := by have := (List.getElem?_eq_some_iff.1 hi).1; omega
  have hm := h.px.tp.evs m (List.mem_of_getElem? hp)
  obtain ⟨ge, oe, cap, he, hc1, hc2, -, hl, hc⟩ := OwnO.open_ hm hpos
  have he3 : m.E = some ⟨ge, oe, none⟩ := by
    unfold PM.evSl at he
    injection he
  refine ⟨ge, oe, he3, hl, hc _ _ (evsV_get m.mes i x hi 1 (by decide)), fun j => ?_⟩
  unfold Sl.own PM.evSl at hm
  rw [he3] at hm
  exact OwnO.froze hm j
theorem PW.rowAt {r : Sl} (h : PW w rb pb tb ln L lc Q qc wr A ac ms rows) (hr : rows[p]? = some r) : ∃ gq oq, Q = some ⟨gq, oq, none⟩ ∧ gq < wr.heap.size ∧ rows.length ≤ qc ∧ wr.cell? ⟨gq, oq + p, none⟩ = some r.v := by
  have hpos : 0 < rows.length := by have := (List.getElem?_eq_some_iff.1 hr).1; omega
  obtain ⟨gq, oq, cap, he, hc1, hc2, -, hl, hc⟩ := h.px.sd.outer.open_ hpos
  cases he
  exact ⟨gq, oq, rfl, hl, hc1, hc p r.v (by rw [List.getElem?_map, hr]; rfl)⟩
theorem PW.rowLen {r : Sl} (h : PW w rb pb tb ln L lc Q qc wr A ac ms rows) (hr : r ∈ rows) : ∃ D dc, r.v = .slice D r.n dc ∧ r.n ≤ dc := by
  obtain ⟨D, dc, h1, h2, -⟩ := OwnO.len (h.px.sd.row r hr)
  exact ⟨D, dc, h1, h2⟩
theorem plV_get : ∀ (l : List RE) (i : Nat) (e : RE), l[i]? = some e → ∀ j, j < 3 → (plV l)[i * 3 + j]? = ([Value.int .i64 (e.line : Int), .int .i64 (e.col : Int), .string e.peer] : List Value)[j]?
  | [], i, m, h, _, _ => by simp at h
  | x :: l, 0, m, h, j, hj => by
    cases h
    unfold plV
    rw [List.flatMap_cons, Nat.zero_mul, Nat.zero_add, List.getElem?_append_left (by show j < 3; exact hj)]
  | x :: l, i + 1, m, h, j, hj => by
    unfold plV
    rw [List.flatMap_cons, List.getElem?_append_right (by show 3 ≤ _; omega), show (i + 1) * 3 + j - ([Value.int .i64 (x.line : Int), .int .i64 (x.col : Int), .string x.peer] : List Value).length = i * 3 + j by show (i + 1) * 3 + j - 3 = _; omega]
    exact plV_get l i m (by simpa using h) j hj
theorem PW.plcAt {r : Sl} {D : Option Addr} {n dc : Nat} {es : List RE} {e : RE} (h : PW w rb pb tb ln L lc Q qc wr A ac ms rows) (hr : r ∈ rows) (hv : r.v = .slice D n dc) (hx : r.n = es.length ∧ r.xs = plV es) (he : es[i]? = some e) :
    ∃ gd od, D = some ⟨gd, od, none⟩ ∧ gd < wr.heap.size ∧ wr.cell? ⟨gd, od + i * 3, none⟩ = some (.int .i64 (e.line : Int)) ∧ wr.cell? ⟨gd, od + i * 3 + 1, none⟩ = some (.int .i64 (e.col : Int)) ∧ wr.cell? ⟨gd, od + i * 3 + 2, none⟩ = some (.string e.peer) := by
  have hpos : 0 < r.n := by have := (List.getElem?_eq_some_iff.1 he).1; omega
  obtain ⟨gd, od, cap, h1, hc1, hc2, -, hl, hc⟩ := OwnO.open_ (h.px.sd.row r hr) hpos
  rw [hv] at h1
  cases h1
  rw [hx.2] at hc
  have hg := plV_get es i e he
  refine ⟨gd, od, rfl, hl, hc _ _ (hg 0 (by decide)), ?_, ?_⟩
  · rw [Nat.add_assoc]; exact hc _ _ (hg 1 (by decide))
  · rw [Nat.add_assoc]; exact hc _ _ (hg 2 (by decide))
theorem PW.lineAt {l : Nat} (h : PW w rb pb tb ln L lc Q qc wr A ac ms rows) (hl : ln[p]? = some l) : ∃ gl ol, L = some ⟨gl, ol, none⟩ ∧ gl < wr.heap.size ∧ ln.length ≤ lc ∧ wr.cell? ⟨gl, ol + p, none⟩ = some (.int .i64 (l : Int)) := by
  have hpos : 0 < ln.length := by have := (List.getElem?_eq_some_iff.1 hl).1; omega
  obtain ⟨gl, ol, cap, h1, hc1, hc2, -, hgl, hc⟩ := h.px.lines.open_ hpos
  cases h1
  refine ⟨gl, ol, rfl, hgl, hc1, hc p _ ?_⟩
  unfold lnV
  rw [List.getElem?_map, hl]
  rfl
end
/-- the process and the event at a place -/
theorem place_at {ns : List ByteArray} {ps : List RP} {p i : Nat} (h : InT (ps.map (rP ns)) (p, i)) : 1 ≤ i ∧ ∃ q e, ps[p]? = some q ∧ q.evs[i - 1]? = some e := by
  obtain ⟨h1, h2⟩ := h
  dsimp only at h1 h2
  unfold evN at h2
  rw [List.getElem?_map] at h2
  cases hq : ps[p]? with
  | none => rw [hq] at h2; simp at h2; omega
  | some q =>
    rw [hq] at h2
    simp [rP] at h2
    exact ⟨h1, q, q.evs[i - 1]'(by omega), rfl, List.getElem?_eq_getElem _⟩
structure PLoop (w : World) (rb pb tb : Nat) (s R : List UInt8) (n : Nat) (ps : List RP) (L : Option Addr) (lc : Nat) (Q : Option Addr) (qc : Nat) (wr : World) (A : Option Addr) (ac : Nat) (ms : List PM) (rows : List Sl) : Prop where
  text : linesX 1 [] (spl 10 s) = linesX n ps (spl 10 R)
  px : PX wr rb tb (ps.map (·.line)) L lc Q qc A ac ms rows
  pr : ms.map PM.pr = ps.map RP.pr
  row : rows.map (fun r => (r.n, r.xs)) = ps.map RP.row
  res : Blk wr rb 24 [.slice none 0 0]
  pos : Blk wr pb 48 [.int .i64 0, .int .i64 0]
  ex : Ex w wr
  small : RSm n ps
theorem PLoop.exx {w : World} {rb pb tb : Nat} {s R : List UInt8} {n : Nat} {ps : List RP} {L : Option Addr} {lc : Nat} {Q : Option Addr} {qc : Nat} {wr w1 : World} {A : Option Addr} {ac : Nat} {ms : List PM} {rows : List Sl} (h : PLoop w rb pb tb s R n ps L lc Q qc wr A ac ms rows) (hx : Ex wr w1) : PLoop w rb pb tb s R n ps L lc Q qc w1 A ac ms rows :=
  ⟨h.text, h.px.ex hx, h.pr, h.row, h.res.ex hx, h.pos.ex hx, h.ex.trans hx, h.small⟩
theorem pErr {s : List UInt8} {w w1 : World} {rb pb : Nat} {e : Int} {l c : Nat} {tmps : Array Value} {a b d : Value} (hx : Ex w w1) (hP : parseT s = .error (e, l, c)) (hB : Blk w1 rb 24 [a]) (hC : Blk w1 pb 48 [b, d]) (hrb : w.heap.size ≤ rb) (hpb : w.heap.size ≤ pb) (hne : rb ≠ pb)
    (hp : tmps.getD 2 undef = .pointer (some ⟨rb, 0, none⟩)) (hq : tmps.getD 3 undef = .pointer (some ⟨pb, 0, none⟩)) (hs : tmps.getD 4 undef = .int .i64 e) :
    bodyPost Tryz.prog Tryz.f20 (ParseR s w) .ret ⟨tmps, []⟩ (((w1.setCell ⟨rb, 0, none⟩ (.slice none 0 0)).setCell ⟨pb, 0, none⟩ (.int .i64 (l : Int))).setCell ⟨pb, 1, none⟩ (.int .i64 (c : Int))) := by
  have b1 := ((hB.set_ 0 (.slice none 0 0)).far (p := ⟨pb, 0, none⟩) hne (.int .i64 (l : Int))).far (p := ⟨pb, 1, none⟩) hne (.int .i64 (c : Int))
  have b2 := ((hC.far (p := ⟨rb, 0, none⟩) (fun e => hne e.symm) (.slice none 0 0)).set_ 0 (.int .i64 (l : Int))).set_ 1 (.int .i64 (c : Int))
  have hX := ((hx.setCell (p := ⟨rb, 0, none⟩) hrb (.slice none 0 0)).setCell (p := ⟨pb, 0, none⟩) hpb (.int .i64 (l : Int))).setCell (p := ⟨pb, 1, none⟩) hpb (.int .i64 (c : Int))
  exact bodyPost_ret (results_fail rfl hp hq hs b1 b2) rfl (ParseR.err hP hX)
theorem pOk {s : List UInt8} {w w1 : World} {rb pb n ac : Nat} {A : Option Addr} {ms : List PM} {tmps : Array Value} {a b d : Value} (hx : Ex w w1) (hP : parseT s = .ok (ms.map PM.pr)) (hT : TP w1 rb A ac ms) (hn : n = ms.length) (hc : ms.length ≤ ac) (hB : Blk w1 rb 24 [a]) (hC : Blk w1 pb 48 [b, d]) (hrb : w.heap.size ≤ rb) (hpb : w.heap.size ≤ pb) (hne : rb ≠ pb)
    (hp : tmps.getD 2 undef = .pointer (some ⟨rb, 0, none⟩)) (hq : tmps.getD 3 undef = .pointer (some ⟨pb, 0, none⟩)) (hs : tmps.getD 4 undef = .int .i64 0) :
    bodyPost Tryz.prog Tryz.f20 (ParseR s w) .ret ⟨tmps, []⟩ (((w1.setCell ⟨rb, 0, none⟩ (.slice A n ac)).setCell ⟨pb, 0, none⟩ (.int .i64 0)).setCell ⟨pb, 1, none⟩ (.int .i64 0)) := by
  have b1 := ((hB.set_ 0 (.slice A n ac)).far (p := ⟨pb, 0, none⟩) hne (.int .i64 0)).far (p := ⟨pb, 1, none⟩) hne (.int .i64 0)
  have c1 := hC.far (p := ⟨rb, 0, none⟩) (fun e => hne e.symm) (.slice A n ac)
  have c2 := c1.set_ 0 (.int .i64 0)
  have b2 := c2.set_ 1 (.int .i64 0)
  have hX := ((hx.setCell (p := ⟨rb, 0, none⟩) hrb (.slice A n ac)).setCell (p := ⟨pb, 0, none⟩) hpb (.int .i64 0)).setCell (p := ⟨pb, 1, none⟩) hpb (.int .i64 0)
  have t1 := hT.chg (Chg.set ⟨_, hB⟩ 0 (.slice A n ac)) (by decide) (by decide) (by decide) (by decide)
  have t2 := t1.chg (Chg.set ⟨_, c1⟩ 0 (.int .i64 0)) (by decide) (by decide) (by decide) (by decide)
  have t3 := t2.chg (Chg.set ⟨_, c2⟩ 1 (.int .i64 0)) (by decide) (by decide) (by decide) (by decide)
  refine bodyPost_ret (results_fail rfl hp hq hs b1 b2) rfl ⟨hX, ?_⟩
  rw [hP]
  exact ⟨A, ac, by rw [hn, List.length_map], t3.tc, by rw [List.length_map]; exact hc⟩
end Go.Proofs.YtpmponafjhnegaaGreatDoor
