/-
  Zigzag paths: what is reached, and the two searches for it: plain lemmas. Checkpoints that are in one line: exactly if no zigzag path joins them (Netzer and Xu). Plain lemmas. Forced checkpoints: the list, and that it has no useless checkpoints. Plain lemmas. Sets of messages as maps of the model.
  Conditions: as each theorem says.
-/
import Derived.Test.YtdenojfbdkdpiaaYg
namespace Go.Proofs.Ytdenojfbdkdpiaa
section
/-- what is reached within M -/
inductive Rch (M : List Msg) (st : Msg → Bool) (nx : Msg → Msg → Bool) : Msg → Prop
  | start {m : Msg} : m ∈ M → st m = true → Rch M st nx m
  | step {k m : Msg} : Rch M st nx k → m ∈ M → nx k m = true → Rch M st nx m
theorem Rch.mem {M : List Msg} {st : Msg → Bool} {nx : Msg → Msg → Bool} {m : Msg} (h : Rch M st nx m) : m ∈ M := by
  cases h <;> assumption
/-- one round over N with a test, from the seen ones S: D are new -/
structure Flw (fits : Msg → Bool) (N S D : List Msg) : Prop where
  fit : ∀ m, m ∈ D → m ∈ N ∧ fits m = true
  nodup : S.Nodup → (D.reverse ++ S).Nodup
  all : ∀ m, m ∈ N → fits m = true → m ∈ D.reverse ++ S
theorem Flw.zero (fits : Msg → Bool) (S : List Msg) : Flw fits [] S [] := ⟨fun m h => absurd h List.not_mem_nil, fun h => by simpa using h, fun m h => absurd h List.not_mem_nil⟩
theorem Flw.skip {fits : Msg → Bool} {N S D : List Msg} (h : Flw fits N S D) {m : Msg} (hm : fits m = true → m ∈ D.reverse ++ S) : Flw fits (N ++ [m]) S D :=
  ⟨fun x hx => ⟨List.mem_append.2 (.inl (h.fit x hx).1), (h.fit x hx).2⟩, h.nodup, fun x hx hf => by
    rcases List.mem_append.1 hx with hx | hx
    · exact h.all x hx hf
    · rw [List.mem_singleton.1 hx] at hf ⊢
      exact hm hf⟩
theorem Flw.got {fits : Msg → Bool} {N S D : List Msg} (h : Flw fits N S D) {m : Msg} (hf : fits m = true) (hn : m ∉ D.reverse ++ S) : Flw fits (N ++ [m]) S (D ++ [m]) :=
  ⟨fun x hx => by
    rcases List.mem_append.1 hx with hx | hx
    · exact ⟨List.mem_append.2 (.inl (h.fit x hx).1), (h.fit x hx).2⟩
    · rw [List.mem_singleton.1 hx]
      exact ⟨List.mem_append.2 (.inr (List.mem_singleton.2 rfl)), hf⟩, fun hs => by
    rw [List.reverse_append, List.append_assoc]
    exact List.nodup_cons.2 ⟨hn, h.nodup hs⟩, fun x hx hfx => by
    rw [List.reverse_append, List.append_assoc]
    rcases List.mem_append.1 hx with hx | hx
    · exact List.mem_cons_of_mem _ (h.all x hx hfx)
    · rw [List.mem_singleton.1 hx]
      exact List.mem_cons_self⟩
/-- the search: S are seen, Q wait -/
structure Zsr (M : List Msg) (st : Msg → Bool) (nx : Msg → Msg → Bool) (go : Msg → Bool) (S Q : List Msg) : Prop where
  nodup : S.Nodup
  rch : ∀ m, m ∈ S → Rch M st nx m
  sub : ∀ m, m ∈ Q → m ∈ S
  start : ∀ m, m ∈ M → st m = true → m ∈ S
  done : ∀ u, u ∈ S → u ∈ Q ∨ (go u = false ∧ ∀ m, m ∈ M → nx u m = true → m ∈ S)
theorem Zsr.begin {M : List Msg} {st : Msg → Bool} {nx : Msg → Msg → Bool} {go : Msg → Bool} {D : List Msg} (h : Flw st M [] D) : Zsr M st nx go D.reverse D :=
  ⟨by simpa using h.nodup List.nodup_nil, fun m hm => .start (h.fit m (List.mem_reverse.1 hm)).1 (h.fit m (List.mem_reverse.1 hm)).2, fun m hm => List.mem_reverse.2 hm, fun m hm hs => by simpa using h.all m hm hs, fun u hu => .inl (List.mem_reverse.1 hu)⟩
theorem Zsr.next {M : List Msg} {st : Msg → Bool} {nx : Msg → Msg → Bool} {go : Msg → Bool} {S Q D : List Msg} {u : Msg} (h : Zsr M st nx go S (u :: Q)) (hg : go u = false) (hD : Flw (nx u) M S D) : Zsr M st nx go (D.reverse ++ S) (Q ++ D) := by
  have hu := h.rch u (h.sub u List.mem_cons_self)
  refine ⟨hD.nodup h.nodup, fun m hm => ?_, fun m hm => ?_, fun m hm hs => List.mem_append.2 (.inr (h.start m hm hs)), fun v hv => ?_⟩
  · rcases List.mem_append.1 hm with hm | hm
    · have := hD.fit m (List.mem_reverse.1 hm)
      exact .step hu this.1 this.2
    · exact h.rch m hm
  · rcases List.mem_append.1 hm with hm | hm
    · exact List.mem_append.2 (.inr (h.sub m (List.mem_cons_of_mem _ hm)))
    · exact List.mem_append.2 (.inl (List.mem_reverse.2 hm))
  · rcases List.mem_append.1 hv with hv | hv
    · exact .inl (List.mem_append.2 (.inr (List.mem_reverse.1 hv)))
    · rcases h.done v hv with hq | ⟨h1, h2⟩
      · rcases List.mem_cons.1 hq with rfl | hq
        · exact .inr ⟨hg, fun m hm hn => hD.all m hm hn⟩
        · exact .inl (List.mem_append.2 (.inl hq))
      · exact .inr ⟨h1, fun m hm hn => List.mem_append.2 (.inr (h2 m hm hn))⟩
/-- a path reaches a goal -/
def ZP (M : List Msg) (st : Msg → Bool) (nx : Msg → Msg → Bool) (go : Msg → Bool) : Prop := ∃ m, Rch M st nx m ∧ go m = true
open Classical in
noncomputable def zB (M : List Msg) (st : Msg → Bool) (nx : Msg → Msg → Bool) (go : Msg → Bool) : Bool := decide (ZP M st nx go)
theorem zB_iff {M : List Msg} {st : Msg → Bool} {nx : Msg → Msg → Bool} {go : Msg → Bool} : zB M st nx go = true ↔ ZP M st nx go := by unfold zB; exact @decide_eq_true_iff _ (Classical.propDecidable _)
theorem zB_true {M : List Msg} {st : Msg → Bool} {nx : Msg → Msg → Bool} {go : Msg → Bool} (h : ZP M st nx go) : zB M st nx go = true := zB_iff.2 h
theorem zB_false {M : List Msg} {st : Msg → Bool} {nx : Msg → Msg → Bool} {go : Msg → Bool} (h : ¬ ZP M st nx go) : zB M st nx go = false := by
  cases hz : zB M st nx go with
  | false => rfl
  | true => exact absurd (zB_iff.1 hz) h
theorem Zsr.found {M : List Msg} {st : Msg → Bool} {nx : Msg → Msg → Bool} {go : Msg → Bool} {S Q : List Msg} {u : Msg} (h : Zsr M st nx go S (u :: Q)) (hg : go u = true) : zB M st nx go = true :=
  zB_true ⟨u, h.rch u (h.sub u List.mem_cons_self), hg⟩
theorem Zsr.end_ {M : List Msg} {st : Msg → Bool} {nx : Msg → Msg → Bool} {go : Msg → Bool} {S : List Msg} (h : Zsr M st nx go S []) : zB M st nx go = false := by
  refine zB_false fun ⟨m, hm, hg⟩ => ?_
  have hin : m ∈ S := by
    clear hg
    induction hm with
    | start h1 h2 => exact h.start _ h1 h2
    | step _ h1 h2 ih =>
      rcases h.done _ ih with hq | ⟨-, hq⟩
      · exact absurd hq List.not_mem_nil
      · exact hq _ h1 h2
  rcases h.done m hin with hq | ⟨hq, -⟩
  · exact absurd hq List.not_mem_nil
  · rw [hg] at hq; cases hq
theorem Zsr.size {M : List Msg} {st : Msg → Bool} {nx : Msg → Msg → Bool} {go : Msg → Bool} {S Q : List Msg} (h : Zsr M st nx go S Q) : S.length ≤ M.length :=
  List.Nodup.length_le_of_subset h.nodup fun m hm => (h.rch m hm).mem
/-- the reference's marks: sound -/
def Mrk (M : List Msg) (st : Msg → Bool) (nx : Msg → Msg → Bool) (R : List Bool) : Prop := R.length = M.length ∧ ∀ (i : Nat) (m : Msg), R[i]? = some true → M[i]? = some m → Rch M st nx m
/-- message i may be marked -/
def Mok (M : List Msg) (st : Msg → Bool) (nx : Msg → Msg → Bool) (R : List Bool) (m : Msg) : Prop := st m = true ∨ ∃ (k : Nat) (u : Msg), R[k]? = some true ∧ M[k]? = some u ∧ nx u m = true
theorem Mrk.zero (M : List Msg) (st : Msg → Bool) (nx : Msg → Msg → Bool) : Mrk M st nx (List.replicate M.length false) :=
  ⟨by simp, fun i m h _ => by rw [List.getElem?_replicate] at h; split at h <;> simp at h⟩
theorem Mrk.set {M : List Msg} {st : Msg → Bool} {nx : Msg → Msg → Bool} {R : List Bool} (h : Mrk M st nx R) {i : Nat} {m : Msg} (hm : M[i]? = some m) (hok : Mok M st nx R m) : Mrk M st nx (R.set i true) := by
  refine ⟨by rw [List.length_set]; exact h.1, fun j u hj hu => ?_⟩
  rw [List.getElem?_set] at hj
  split at hj
  · rename_i he
    subst he
    rw [hm] at hu
    cases hu
    rcases hok with hs | ⟨k, v, h1, h2, h3⟩
    · exact .start (List.mem_of_getElem? hm) hs
    · exact .step (h.2 k v h1 h2) (List.mem_of_getElem? hm) h3
  · exact h.2 j u hj hu
theorem Mrk.end_ {M : List Msg} {st : Msg → Bool} {nx : Msg → Msg → Bool} {R : List Bool} (hc : ∀ (i : Nat) (m : Msg), M[i]? = some m → Mok M st nx R m → R[i]? = some true) {m : Msg} (hm : Rch M st nx m) : ∀ i : Nat, M[i]? = some m → R[i]? = some true := by
  induction hm with
  | start h1 h2 => exact fun i hi => hc i _ hi (.inl h2)
  | step h0 h1 h2 ih =>
    intro i hi
    obtain ⟨k, hk⟩ := List.mem_iff_getElem?.1 h0.mem
    exact hc i _ hi (.inr ⟨k, _, ih k hk, hk, h2⟩)
/-- marks that are not yet set -/
def unset (R : List Bool) : Nat := R.countP fun b => !b
theorem unset_set {R : List Bool} {i : Nat} (h : R[i]? = some false) : unset (R.set i true) < unset R := by
  induction R generalizing i with
  | nil => simp at h
  | cons x R ih =>
    cases i with
    | zero =>
      simp only [List.getElem?_cons_zero, Option.some.injEq] at h
      subst h
      simp [unset]
    | succ i =>
      have := ih (i := i) (by simpa using h)
      simp only [unset, List.set_cons_succ, List.countP_cons] at this ⊢
      omega
theorem zB_found {M : List Msg} {st : Msg → Bool} {nx : Msg → Msg → Bool} {go : Msg → Bool} {R : List Bool} (h : Mrk M st nx R) {i : Nat} {m : Msg} (h1 : R[i]? = some true) (h2 : M[i]? = some m) (h3 : go m = true) : zB M st nx go = true := zB_true ⟨m, h.2 i m h1 h2, h3⟩
theorem zB_none {M : List Msg} {st : Msg → Bool} {nx : Msg → Msg → Bool} {go : Msg → Bool} {R : List Bool} (hc : ∀ (i : Nat) (m : Msg), M[i]? = some m → Mok M st nx R m → R[i]? = some true) (hn : ∀ (i : Nat) (m : Msg), R[i]? = some true → M[i]? = some m → go m = false) : zB M st nx go = false := by
  refine zB_false fun ⟨m, hm, hg⟩ => ?_
  obtain ⟨i, hi⟩ := List.mem_iff_getElem?.1 hm.mem
  have := hn i m (Mrk.end_ hc hm i hi) hi
  rw [hg] at this
  cases this
end
section
/-- the number of states of a process that are ahead of an event -/
def ivN (l : List (List Int)) (p i : Nat) : Nat := (l.getD p []).countP (· < (i : Int))
def nxB (l : List (List Int)) (k m : Msg) : Bool := decide (m.1.1 = k.2.1) && decide (ivN l k.2.1 k.2.2 ≤ ivN l m.1.1 m.1.2)
def stX (X : Nat → Option Int) (m : Msg) : Bool := match X m.1.1 with | some a => decide (a < (m.1.2 : Int)) | none => false
def goX (X : Nat → Option Int) (m : Msg) : Bool := match X m.2.1 with | some a => decide ((m.2.2 : Int) ≤ a) | none => false
/-- lists of states that fit the messages -/
structure LFit (M : List Msg) (l : List (List Int)) : Prop where
  asc : ∀ (p : Nat) (r : List Int), l[p]? = some r → Asc r
  bound : ∀ m, m ∈ M → m.1.1 < l.length ∧ m.2.1 < l.length ∧ 1 ≤ m.2.2
  last : ∀ m, m ∈ M → ∀ r, l[m.1.1]? = some r → ∃ z, z ∈ r ∧ (m.1.2 : Int) ≤ z
theorem max_of : ∀ (r : List Int) (P : Int → Prop), (∃ a, a ∈ r ∧ P a) → ∃ a, a ∈ r ∧ P a ∧ ∀ b, b ∈ r → P b → b ≤ a
  | [], _, ⟨a, h, _⟩ => absurd h List.not_mem_nil
  | x :: r, P, ⟨a, h, hp⟩ => by
    by_cases hr : ∃ a, a ∈ r ∧ P a
    · obtain ⟨c, h1, h2, h3⟩ := max_of r P hr
      by_cases hx : P x ∧ c ≤ x
      · refine ⟨x, List.mem_cons_self, hx.1, fun b hb hpb => ?_⟩
        rcases List.mem_cons.1 hb with rfl | hb
        · exact Int.le_refl _
        · exact Int.le_trans (h3 b hb hpb) hx.2
      · refine ⟨c, List.mem_cons_of_mem _ h1, h2, fun b hb hpb => ?_⟩
        rcases List.mem_cons.1 hb with rfl | hb
        · have : ¬ c ≤ b := fun hc => hx ⟨hpb, hc⟩
          omega
        · exact h3 b hb hpb
    · rcases List.mem_cons.1 h with rfl | h
      · refine ⟨a, List.mem_cons_self, hp, fun b hb hpb => ?_⟩
        rcases List.mem_cons.1 hb with rfl | hb
        · exact Int.le_refl _
        · exact absurd ⟨b, hb, hpb⟩ hr
      · exact absurd ⟨a, h, hp⟩ hr
theorem ivN_at {l : List (List Int)} {p : Nat} {r : List Int} (h : l[p]? = some r) (i : Nat) : ivN l p i = r.countP (· < (i : Int)) := by
  unfold ivN
  rw [List.getD_eq_getElem?_getD, h]
  rfl
/-- what is reached is received behind a line through the start -/
theorem rch_behind {M : List Msg} {l : List (List Int)} (hl : LFit M l) {X : Nat → Option Int} {c : List Int} (hc : IsLine M l c) (hX : ∀ p a, X p = some a → c[p]? = some a) {m : Msg} (hm : Rch M (stX X) (nxB l) m) : ∀ a, c[m.2.1]? = some a → a < (m.2.2 : Int) := by
  have key : ∀ m, m ∈ M → (∀ b, c[m.1.1]? = some b → b < (m.1.2 : Int)) → ∀ a, c[m.2.1]? = some a → a < (m.2.2 : Int) := fun m hm h a ha => by
    obtain ⟨b, hb⟩ := get_at (show m.1.1 < c.length by rw [hc.len]; exact (hl.bound m hm).1)
    have h1 := h b hb
    have h2 := hc.closed m hm a b ha hb
    exact Int.not_le.1 fun hle => by have := h2 hle; omega
  induction hm with
  | start h1 h2 =>
    refine key _ h1 fun b hb => ?_
    unfold stX at h2
    split at h2
    · rename_i a ha
      rw [hX _ a ha] at hb
      cases hb
      exact of_decide_eq_true h2
    · cases h2
  | @step k m h0 h1 h2 ih =>
    refine key _ h1 fun b hb => ?_
    unfold nxB at h2
    rw [Bool.and_eq_true] at h2
    obtain ⟨e1, e2⟩ := h2
    have e1 := of_decide_eq_true e1
    have e2 := of_decide_eq_true e2
    rw [e1] at hb e2
    have h3 := ih b hb
    obtain ⟨r, hr⟩ := get_at (show k.2.1 < l.length by rw [← e1]; exact (hl.bound m h1).1)
    rw [ivN_at hr, ivN_at hr] at e2
    obtain ⟨j, hj⟩ := List.mem_iff_getElem?.1 (hc.mem _ r b hr hb)
    obtain ⟨i1, -, g1, -, g2⟩ := split_at (n := (k.2.2 : Int)) (asc_sorted (hl.asc _ r hr))
    obtain ⟨i2, -, g3, g4, -⟩ := split_at (n := (m.1.2 : Int)) (asc_sorted (hl.asc _ r hr))
    rw [g1, g3] at e2
    have hji : j < i1 := Nat.lt_of_not_le fun hle => by have := g2 j b hle hj; omega
    exact g4 j b (by omega) hj
theorem not_both {M : List Msg} {l : List (List Int)} (hl : LFit M l) {X : Nat → Option Int} {c : List Int} (hc : IsLine M l c) (hX : ∀ p a, X p = some a → c[p]? = some a) : ¬ ZP M (stX X) (nxB l) (goX X) := fun ⟨m, hm, hg⟩ => by
  unfold goX at hg
  split at hg
  · rename_i a ha
    have := rch_behind hl hc hX hm a (hX _ a ha)
    have := of_decide_eq_true hg
    omega
  · cases hg
open Classical in
theorem line_of {M : List Msg} {l : List (List Int)} (hl : LFit M l) {X : Nat → Option Int} (hX : ∀ (p : Nat) (a : Int), X p = some a → ∃ r, l[p]? = some r ∧ a ∈ r) (hz : ¬ ZP M (stX X) (nxB l) (goX X)) : ∃ c, IsLine M l c ∧ ∀ p a, X p = some a → c[p]? = some a := by
  have hex : ∀ p : Nat, ∃ v : Int, ∀ r, l[p]? = some r → v ∈ r ∧ (∀ a, X p = some a → v = a) ∧ (X p = none → (∀ k, Rch M (stX X) (nxB l) k → k.2.1 = p → v < (k.2.2 : Int)) ∧ ∀ b, b ∈ r → (∀ k, Rch M (stX X) (nxB l) k → k.2.1 = p → b < (k.2.2 : Int)) → b ≤ v) := fun p => by
    cases hx : X p with
    | some a =>
      refine ⟨a, fun r hr => ?_⟩
      obtain ⟨r', h1, h2⟩ := hX p a hx
      rw [hr] at h1
      cases h1
      exact ⟨h2, fun b hb => by cases hb; rfl, fun h => by cases h⟩
    | none =>
      cases hr : l[p]? with
      | none => exact ⟨0, fun r h => by cases h⟩
      | some r =>
        obtain ⟨v, h1, h2, h3⟩ := max_of r (fun b => ∀ k, Rch M (stX X) (nxB l) k → k.2.1 = p → b < (k.2.2 : Int)) ⟨0, List.mem_iff_getElem?.2 ⟨0, (hl.asc p r hr).1⟩, fun k hk _ => by have := (hl.bound k hk.mem).2.2; omega⟩
        refine ⟨v, fun r' h => ?_⟩
        cases h
        exact ⟨h1, (fun a ha => by cases ha), fun _ => ⟨h2, h3⟩⟩
  obtain ⟨f, hf⟩ := Classical.axiomOfChoice hex
  have hget : ∀ p, p < l.length → ((List.range l.length).map f)[p]? = some (f p) := fun p hp => by simp [hp]
  refine ⟨(List.range l.length).map f, ⟨by simp, fun p r a hr ha => ?_, fun m hm a b ha hb hle => ?_⟩, fun p a ha => ?_⟩
  · rw [hget p (List.getElem?_eq_some_iff.1 hr).1] at ha
    cases ha
    exact (hf p r hr).1
  · obtain ⟨b1, b2, b3⟩ := hl.bound m hm
    rw [hget _ b2] at ha
    rw [hget _ b1] at hb
    cases ha; cases hb
    refine Int.not_lt.1 fun hlt => ?_
    obtain ⟨r, hr⟩ := get_at b1
    obtain ⟨q, hq⟩ := get_at b2
    have hR : Rch M (stX X) (nxB l) m := by
      cases hx : X m.1.1 with
      | some x =>
        refine .start hm ?_
        unfold stX
        rw [hx]
        rw [((hf _ r hr).2.1 x hx)] at hlt
        exact decide_eq_true hlt
      | none =>
        obtain ⟨g1, g2⟩ := (hf _ r hr).2.2 hx
        apply Classical.byContradiction
        intro hno
        obtain ⟨i, h1, h2, h3, h4⟩ := split_at (n := (m.1.2 : Int)) (asc_sorted (hl.asc _ r hr))
        obtain ⟨z, hz1, hz2⟩ := hl.last m hm r hr
        obtain ⟨j, hj⟩ := List.mem_iff_getElem?.1 hz1
        have hij : i ≤ j := Nat.le_of_not_lt fun h => by have := h3 j z h hj; omega
        obtain ⟨e, he⟩ := get_at (show i < r.length by have := (List.getElem?_eq_some_iff.1 hj).1; omega)
        have he2 := h4 i e (Nat.le_refl _) he
        have := g2 e (List.mem_iff_getElem?.2 ⟨i, he⟩) fun k hk hkp => by
          obtain ⟨i2, f1, f2, f3, f4⟩ := split_at (n := (k.2.2 : Int)) (asc_sorted (hl.asc _ r hr))
          refine f3 i e (Nat.lt_of_not_le fun hle => hno (.step hk hm ?_)) he
          unfold nxB
          rw [hkp, ivN_at hr, ivN_at hr, h2, f2]
          simp [hle]
        omega
    cases hx : X m.2.1 with
    | some y =>
      rw [(hf _ q hq).2.1 y hx] at hle
      refine hz ⟨m, hR, ?_⟩
      unfold goX
      rw [hx]
      exact decide_eq_true hle
    | none =>
      have := ((hf _ q hq).2.2 hx).1 m hR rfl
      omega
  · obtain ⟨r, hr, -⟩ := hX p a ha
    rw [hget p (List.getElem?_eq_some_iff.1 hr).1, (hf p r hr).2.1 a ha]
/-- a set of states is in a line exactly if no path joins two of them -/
theorem line_iff {M : List Msg} {l : List (List Int)} (hl : LFit M l) {X : Nat → Option Int} (hX : ∀ (p : Nat) (a : Int), X p = some a → ∃ r, l[p]? = some r ∧ a ∈ r) : (∃ c, IsLine M l c ∧ ∀ p a, X p = some a → c[p]? = some a) ↔ ¬ ZP M (stX X) (nxB l) (goX X) :=
  ⟨fun ⟨_, hc, h⟩ => not_both hl hc h, line_of hl hX⟩
end
section
/-- the states of a process from k on, with those that are forced; sent: something is sent since the last one -/
def frc (r : List Int) : List Ev → Nat → Bool → List Int
  | [], k, _ => if (k : Int) ∈ r then [(k : Int)] else []
  | e :: es, k, sent =>
    (if (k : Int) ∈ r ∨ (sent = true ∧ e.kind = 3) then [(k : Int)] else []) ++ frc r es (k + 1) ((sent && !decide ((k : Int) ∈ r ∨ (sent = true ∧ e.kind = 3))) || decide (e.kind = 2))
theorem frc_ge (r : List Int) : ∀ (es : List Ev) (k : Nat) (s : Bool) (a : Int), a ∈ frc r es k s → (k : Int) ≤ a ∧ a ≤ k + es.length
  | [], k, s, a, h => by
    unfold frc at h
    split at h
    · rw [List.mem_singleton.1 h]; simp
    · exact absurd h List.not_mem_nil
  | e :: es, k, s, a, h => by
    unfold frc at h
    rcases List.mem_append.1 h with h | h
    · split at h
      · rw [List.mem_singleton.1 h]; simp; omega
      · exact absurd h List.not_mem_nil
    · have := frc_ge r es (k + 1) _ a h
      simp only [List.length_cons]
      omega
theorem frc_asc (r : List Int) : ∀ (es : List Ev) (k : Nat) (s : Bool), (frc r es k s).Pairwise (· < ·)
  | [], k, s => by unfold frc; split <;> simp
  | e :: es, k, s => by
    unfold frc
    refine List.pairwise_append.2 ⟨by split <;> simp, frc_asc r es (k + 1) _, fun a ha b hb => ?_⟩
    have := frc_ge r es (k + 1) _ b hb
    split at ha
    · rw [List.mem_singleton.1 ha]; omega
    · exact absurd ha List.not_mem_nil
/-- the old ones are kept -/
theorem frc_old (r : List Int) : ∀ (es : List Ev) (k : Nat) (s : Bool) (j : Nat), k ≤ j → j ≤ k + es.length → (j : Int) ∈ r → (j : Int) ∈ frc r es k s
  | [], k, s, j, h1, h2, hr => by
    unfold frc
    simp only [List.length_nil] at h2
    obtain rfl : j = k := by omega
    rw [if_pos hr]
    exact List.mem_singleton.2 rfl
  | e :: es, k, s, j, h1, h2, hr => by
    unfold frc
    by_cases hj : j = k
    · subst hj
      rw [if_pos (.inl hr)]
      simp
    · exact List.mem_append.2 (.inr (frc_old r es (k + 1) _ j (by omega) (by simp only [List.length_cons] at h2; omega) hr))
/-- what is added is directly before a receive -/
theorem frc_new (r : List Int) : ∀ (es : List Ev) (k : Nat) (s : Bool) (a : Int), a ∈ frc r es k s → a ∈ r ∨ ∃ (i : Nat) (e : Ev), a = ((k + i : Nat) : Int) ∧ es[i]? = some e ∧ e.kind = 3
  | [], k, s, a, h => by
    unfold frc at h
    split at h
    · rename_i hr
      rw [List.mem_singleton.1 h]
      exact .inl hr
    · exact absurd h List.not_mem_nil
  | e :: es, k, s, a, h => by
    unfold frc at h
    rcases List.mem_append.1 h with h | h
    · split at h
      · rename_i hr
        rw [List.mem_singleton.1 h]
        rcases hr with hr | hr
        · exact .inl hr
        · exact .inr ⟨0, e, by simp, by simp, hr.2⟩
      · exact absurd h List.not_mem_nil
    · rcases frc_new r es (k + 1) _ a h with h | ⟨i, f, h1, h2, h3⟩
      · exact .inl h
      · exact .inr ⟨i + 1, f, by rw [h1]; congr 1; omega, by simpa using h2, h3⟩
/-- forced again: nothing is added -/
theorem frc_again (r r2 : List Int) : ∀ (es : List Ev) (k : Nat) (s : Bool), (∀ j : Nat, k ≤ j → ((j : Int) ∈ r2 ↔ (j : Int) ∈ frc r es k s)) → frc r2 es k s = frc r es k s
  | [], k, s, h => by
    have h1 := h k (Nat.le_refl _)
    unfold frc at h1 ⊢
    by_cases hr : (k : Int) ∈ r
    · rw [if_pos hr] at h1 ⊢
      rw [if_pos (h1.2 (List.mem_singleton.2 rfl))]
    · rw [if_neg hr] at h1 ⊢
      rw [if_neg fun g => absurd (h1.1 g) List.not_mem_nil]
  | e :: es, k, s, h => by
    have hk : ((k : Int) ∈ r2 ∨ (s = true ∧ e.kind = 3)) ↔ ((k : Int) ∈ r ∨ (s = true ∧ e.kind = 3)) := by
      have h1 := h k (Nat.le_refl _)
      unfold frc at h1
      by_cases hc : (k : Int) ∈ r ∨ (s = true ∧ e.kind = 3)
      · rw [if_pos hc] at h1
        exact ⟨fun _ => hc, fun _ => .inl (h1.2 (by simp))⟩
      · refine ⟨fun g => ?_, fun g => absurd g hc⟩
        rcases g with g | g
        · rw [if_neg hc] at h1
          have h2 := h1.1 g
          rw [List.nil_append] at h2
          have := frc_ge r es (k + 1) _ _ h2
          omega
        · exact absurd (.inr g) hc
    unfold frc
    have hd : decide ((k : Int) ∈ r2 ∨ (s = true ∧ e.kind = 3)) = decide ((k : Int) ∈ r ∨ (s = true ∧ e.kind = 3)) := decide_eq_decide.2 hk
    rw [hd, frc_again r r2 es (k + 1) _ fun j hj => ?_]
    · congr 1
      by_cases hc : (k : Int) ∈ r ∨ (s = true ∧ e.kind = 3)
      · rw [if_pos hc, if_pos (hk.2 hc)]
      · rw [if_neg hc, if_neg fun g => hc (hk.1 g)]
    · rw [h j (by omega)]
      conv => lhs; unfold frc
      rw [List.mem_append]
      refine ⟨fun g => ?_, .inr⟩
      rcases g with g | g
      · split at g
        · have := List.mem_singleton.1 g; omega
        · exact absurd g List.not_mem_nil
      · exact g
/-- between a send and a later receive there is a state -/
theorem frc_between (r : List Int) : ∀ (es : List Ev) (k : Nat) (s : Bool),
    (s = true → ∀ (j : Nat) (f : Ev), es[j]? = some f → f.kind = 3 → ∃ a : Nat, (a : Int) ∈ frc r es k s ∧ a ≤ k + j) ∧
    ∀ (i j : Nat) (e f : Ev), i < j → es[i]? = some e → e.kind = 2 → es[j]? = some f → f.kind = 3 → ∃ a : Nat, (a : Int) ∈ frc r es k s ∧ k + i < a ∧ a ≤ k + j
  | [], k, s => ⟨fun _ j f h => by simp at h, fun i j e f _ h => by simp at h⟩
  | x :: es, k, s => by
    obtain ⟨h1, h2⟩ := frc_between r es (k + 1) ((s && !decide ((k : Int) ∈ r ∨ (s = true ∧ x.kind = 3))) || decide (x.kind = 2))
    refine ⟨fun hs j f hj hf => ?_, fun i j e f hij hi he hj hf => ?_⟩
    · by_cases hc : (k : Int) ∈ r ∨ (s = true ∧ x.kind = 3)
      · refine ⟨k, ?_, by omega⟩
        unfold frc
        rw [if_pos hc]
        simp
      · cases j with
        | zero =>
          simp only [List.getElem?_cons_zero, Option.some.injEq] at hj
          subst hj
          exact absurd (.inr ⟨hs, hf⟩) hc
        | succ j =>
          obtain ⟨a, g1, g2⟩ := h1 (by rw [decide_eq_false hc, hs]; rfl) j f (by simpa using hj) hf
          refine ⟨a, ?_, by omega⟩
          unfold frc
          exact List.mem_append.2 (.inr g1)
    · cases j with
      | zero => omega
      | succ j =>
        cases i with
        | zero =>
          simp only [List.getElem?_cons_zero, Option.some.injEq] at hi
          subst hi
          obtain ⟨a, g1, g2⟩ := h1 (by simp [he]) j f (by simpa using hj) hf
          have := frc_ge r es (k + 1) _ _ g1
          refine ⟨a, ?_, by omega, by omega⟩
          unfold frc
          exact List.mem_append.2 (.inr g1)
        | succ i =>
          obtain ⟨a, g1, g2, g3⟩ := h2 i j e f (by omega) (by simpa using hi) he (by simpa using hj) hf
          refine ⟨a, ?_, by omega, by omega⟩
          unfold frc
          exact List.mem_append.2 (.inr g1)
theorem hap_own {t : List Pr} {p : Nat} : ∀ (n i : Nat), 1 ≤ i → i + (n + 1) ≤ evN t p → Hap t (p, i) (p, i + (n + 1))
  | 0, i, h1, h2 => .single ⟨⟨h1, by show i ≤ evN t p; omega⟩, ⟨by show 1 ≤ i + 1; omega, h2⟩, .inl ⟨rfl, rfl⟩⟩
  | n + 1, i, h1, h2 => .tail (hap_own n i h1 (by omega)) ⟨⟨by show 1 ≤ i + (n + 1); omega, by show i + (n + 1) ≤ evN t p; omega⟩, ⟨by show 1 ≤ i + (n + 1 + 1); omega, h2⟩, .inl ⟨rfl, by show i + (n + 1) + 1 = i + (n + 1 + 1); omega⟩⟩
theorem hap_lt {t : List Pr} {p i j : Nat} (h1 : 1 ≤ i) (h : i < j) (h2 : j ≤ evN t p) : Hap t (p, i) (p, j) := by
  have := hap_own (t := t) (p := p) (j - i - 1) i h1 (by omega)
  rwa [show i + (j - i - 1 + 1) = j by omega] at this
/-- a message: a send, and its receive -/
def IsMsg (t : List Pr) (m : Msg) : Prop := ∃ e f, InT t m.1 ∧ InT t m.2 ∧ evAt t m.1.1 (m.1.2 - 1) = some e ∧ evAt t m.2.1 (m.2.2 - 1) = some f ∧ e.kind = 2 ∧ f.kind = 3 ∧ e.msg = f.msg
theorem IsMsg.dir {t : List Pr} {m : Msg} (h : IsMsg t m) : Dir t m.1 m.2 := by
  obtain ⟨e, f, h1, h2, h3, h4, h5, h6, h7⟩ := h
  exact ⟨h1, h2, .inr ⟨e, f, h3, h4, h5, h6, h7⟩⟩
/-- the states part each send from the receives behind it -/
def Parted (t : List Pr) (l : List (List Int)) : Prop := ∀ (p : Nat) (r : List Int), l[p]? = some r → ∀ (i j : Nat) (e f : Ev), i < j → evAt t p i = some e → e.kind = 2 → evAt t p j = some f → f.kind = 3 → ∃ a : Nat, (a : Int) ∈ r ∧ i < a ∧ a ≤ j
theorem parted_rch {t : List Pr} {M : List Msg} {l : List (List Int)} (hM : ∀ m, m ∈ M → IsMsg t m) (hl : LFit M l) (hp : Parted t l) {X : Nat → Option Int} {m : Msg} (hm : Rch M (stX X) (nxB l) m) : ∃ (s : Nat × Nat) (a : Int), X s.1 = some a ∧ a < (s.2 : Int) ∧ Hap t s m.2 := by
  induction hm with
  | @start m h1 h2 =>
    unfold stX at h2
    split at h2
    · rename_i a ha
      exact ⟨m.1, a, ha, of_decide_eq_true h2, .single (hM m h1).dir⟩
    · cases h2
  | @step k m h0 h1 h2 ih =>
    obtain ⟨s, a, g1, g2, g3⟩ := ih
    refine ⟨s, a, g1, g2, hap_trans g3 ?_⟩
    unfold nxB at h2
    rw [Bool.and_eq_true] at h2
    obtain ⟨e1, e2⟩ := h2
    have e1 := of_decide_eq_true e1
    have e2 := of_decide_eq_true e2
    obtain ⟨-, fk, -, k2, -, k4, -, k6, -⟩ := hM k h0.mem
    obtain ⟨em, -, m1, -, m3, -, m5, -, -⟩ := hM m h1
    rw [e1] at e2 m3
    obtain ⟨r, hr⟩ := get_at (show k.2.1 < l.length from (hl.bound k h0.mem).2.1)
    rw [ivN_at hr, ivN_at hr] at e2
    have hlt : k.2.2 < m.1.2 := Nat.lt_of_not_le fun hle => by
      have hm1 := m1.1
      have hk1 := k2.1
      by_cases he : m.1.2 = k.2.2
      · rw [he, k4] at m3
        cases m3
        omega
      · obtain ⟨b, b1, b2, b3⟩ := hp _ r hr (m.1.2 - 1) (k.2.2 - 1) em fk (by omega) m3 m5 k4 k6
        obtain ⟨i1, -, c1, c2, c3⟩ := split_at (n := (k.2.2 : Int)) (asc_sorted (hl.asc _ r hr))
        obtain ⟨i2, -, d1, d2, d3⟩ := split_at (n := (m.1.2 : Int)) (asc_sorted (hl.asc _ r hr))
        rw [c1, d1] at e2
        obtain ⟨j, hj⟩ := List.mem_iff_getElem?.1 b1
        have : j < i1 := Nat.lt_of_not_le fun h => by have := c3 j _ h hj; omega
        have := d2 j _ (by omega) hj
        omega
    have hm2 := m1.2
    obtain ⟨⟨mp, mi⟩, mr⟩ := m
    obtain ⟨ks, ⟨kp, ki⟩⟩ := k
    dsimp only at *
    subst e1
    exact hap_trans (hap_lt k2.1 hlt hm2) (.single (hM _ h1).dir)
/-- then no checkpoint is useless -/
theorem parted_none {t : List Pr} {M : List Msg} {l : List (List Int)} (hM : ∀ m, m ∈ M → IsMsg t m) (hl : LFit M l) (hp : Parted t l) (hc : ∀ x, ¬ OnC t x) (p : Nat) (a : Int) : ¬ ZP M (stX fun q => if q = p then some a else none) (nxB l) (goX fun q => if q = p then some a else none) := fun ⟨m, hm, hg⟩ => by
  obtain ⟨s, b, h1, h2, h3⟩ := parted_rch hM hl hp hm
  split at h1
  · rename_i hs
    cases h1
    unfold goX at hg
    split at hg
    · rename_i c hc1
      dsimp only at hc1
      split at hc1
      · rename_i hq
        cases hc1
        have hle := of_decide_eq_true hg
        have hi := hap_in h3
        obtain ⟨sp, si⟩ := s
        obtain ⟨ms, ⟨mp, mi⟩⟩ := m
        dsimp only at *
        subst hs hq
        exact hc _ (hap_trans h3 (hap_lt hi.2.1 (by omega) hi.1.2))
      · cases hc1
    · cases hg
  · cases h1
end
section
open Go.RowKit Go.Shelf
open Go.Maps (Keyed)
theorem msRow : (109 : TypeId) < Try.prog.types.size := of_decide_eq_true (by kernel_rfl)
theorem msKeyLaw : Go.WideMaps.KeyLaw Try.prog 109 := by
  refine deep_law_laid idLaidOut (m := 3) (by decide) msRow (by kernel_rfl) ?_
  rw [Try.underlying109]
theorem msKeyed : Keyed Try.prog 109 := Keyed.of_law msKeyLaw
theorem msKeyType : Try.prog.keyType 109 = true := by kernel_rfl
theorem msCells : Try.prog.cellsOf 109 = 4 := by kernel_rfl
/-- a message as a value -/
def msgV (m : Msg) : Value := .agg #[.int .i64 (m.1.1 : Nat), .int .i64 (m.1.2 : Nat), .int .i64 (m.2.1 : Nat), .int .i64 (m.2.2 : Nat)]
theorem key_ms (a b c d : Int) (wa : (Lit.int .i64 a).wf = true) (wb : (Lit.int .i64 b).wf = true) (wc : (Lit.int .i64 c).wf = true) (wd : (Lit.int .i64 d).wf = true) : ∃ l, keyOf Try.prog 109 (.agg #[.int .i64 a, .int .i64 b, .int .i64 c, .int .i64 d]) = some l := by
  have hfm : (Value.agg #[.int .i64 a, .int .i64 b, .int .i64 c, .int .i64 d]).formed Try.prog 109 = true := by simp [Value.formed, Try.underlying109, msCells]
  obtain ⟨m, hm⟩ : ∃ m, Try.prog.types.size = m + 2 := by
    have h : 2 ≤ Try.prog.types.size := of_decide_eq_true (by kernel_rfl)
    generalize Try.prog.types.size = n at *
    exact ⟨n - 2, by omega⟩
  unfold keyOf
  simp only [Try.underlying109, msKeyType, hfm, Bool.and_self, if_true, hm]
  unfold Program.keyLits
  simp only [Try.underlying109]
  simp [idCells, msCells, intCells, Value.cells, Program.keyLits, Try.underlying27, Try.underlying3, wa, wb, wc, wd]
  rw [if_pos (by decide), if_pos (by decide)]
  exact ⟨_, rfl⟩
/-- numbers that fit -/
def FitM (m : Msg) : Prop := FitI m.1 ∧ FitI m.2
theorem key_fitM {x : Msg} (h : FitM x) : ∃ l, keyOf Try.prog 109 (msgV x) = some l := by
  refine key_ms _ _ _ _ ?_ ?_ ?_ ?_
  · have := h.1.1; simp [Lit.wf, IntKind.min, IntKind.max, IntKind.bits, IntKind.signed]; omega
  · have := h.1.2; simp [Lit.wf, IntKind.min, IntKind.max, IntKind.bits, IntKind.signed]; omega
  · have := h.2.1; simp [Lit.wf, IntKind.min, IntKind.max, IntKind.bits, IntKind.signed]; omega
  · have := h.2.2; simp [Lit.wf, IntKind.min, IntKind.max, IntKind.bits, IntKind.signed]; omega
/-- the map holds just the messages of s -/
def SeenZ (w : World) (b n : Nat) (s : List Msg) : Prop :=
  ∃ D : DataW Unit, w.ownsMap Try.prog 109 (plainElem Try.prog 4) b n D ∧ ∀ x l, keyOf Try.prog 109 (msgV x) = some l → D.atKey l (.lit (.bool false)) = .lit (.bool (decide (x ∈ s)))
theorem SeenZ.made (w : World) : SeenZ (w.alloc (.map #[] 0)) w.heap.size 0 [] :=
  ⟨.map [], World.ownsMap_made w _ _ _, fun x l _ => by simp [DataW.atKey]⟩
theorem SeenZ.kept {w w' : World} {b n : Nat} {s : List Msg} {row : Option Nat} (h : SeenZ w b n s) (hg : w.grownBy w' row) (hne : some b ≠ row) : SeenZ w' b n s := by
  obtain ⟨D, h1, h2⟩ := h
  exact ⟨D, h1.kept hg hne, h2⟩
theorem SeenZ.lt {w : World} {b n : Nat} {s : List Msg} (h : SeenZ w b n s) : b < w.heap.size := by
  obtain ⟨D, h1, -⟩ := h
  exact h1.lt
theorem SeenZ.keep {w w' : World} {b n : Nat} {s : List Msg} (h : SeenZ w b n s) (hx : w.heap[b]? = w'.heap[b]?) : SeenZ w' b n s := by
  obtain ⟨D, ⟨es, clock, h1, h2⟩, h3⟩ := h
  exact ⟨D, ⟨es, clock, by rw [← hx]; exact h1, h2⟩, h3⟩
theorem SeenZ.ex {w w' : World} {b n : Nat} {s : List Msg} (h : SeenZ w b n s) (hx : Ex w w') : SeenZ w' b n s :=
  h.kept (row := none) ⟨hx.below.os, hx.below.tape, hx.below.output, hx.below.size, fun k hk _ => hx.below.block k hk⟩ (by simp)
theorem SeenZ.look {w : World} {b n : Nat} {s : List Msg} (h : SeenZ w b n s) {x : Msg} (hx : FitM x) : (Instr.lookup 106 (.map (some b)) (msgV x) false).run Try.prog w = .ok (.bool (decide (x ∈ s))) w := by
  obtain ⟨D, h1, h2⟩ := h
  obtain ⟨l, hl⟩ := key_fitM hx
  obtain ⟨v, ps, hrun, hv⟩ := h1.lookup msKeyed Try.underlying106 (zeroBool w) (zd := .lit (.bool false)) (zp := []) (by simp [plainElem, Try.underlying4]) hl
  obtain ⟨c, rfl, he⟩ := bool_of_plain hv
  rw [hrun]
  have h3 := congrArg Prod.fst he
  simp only at h3
  rw [h2 x l hl] at h3
  simp only [DataW.lit.injEq, Lit.bool.injEq] at h3
  rw [h3]
theorem SeenZ.put {w : World} {b n : Nat} {s : List Msg} (h : SeenZ w b n s) (hn : n < maxLen) {x : Msg} (hx : FitM x) :
    ∃ w', (Instr.mapUpdate 106 (.map (some b)) (msgV x) (.bool true)).run Try.prog w = .ok () w' ∧ SeenZ w' b (n + 1) (x :: s) ∧ w.grownBy w' (some b) := by
  obtain ⟨D, h1, h2⟩ := h
  obtain ⟨l, hl⟩ := key_fitM hx
  obtain ⟨w', hrun, ho, hg⟩ := h1.update msKeyed Try.underlying106 hn hl (val := .bool true) (d := .lit (.bool true)) (ps := []) (by simp [plainElem, Try.underlying4])
  refine ⟨w', hrun, ⟨_, ho, fun y l' hl' => ?_⟩, hg⟩
  by_cases hxy : y = x
  · subst hxy
    rw [hl] at hl'
    cases hl'
    have hm : Go.Maps.IsMap D := by
      obtain ⟨es, clock, -, -, -, hD⟩ := h1
      exact ⟨_, hD⟩
    rw [Go.Maps.atKey_put_same hm (msKeyed.key hl)]
    simp
  · have hne : l' ≠ l := fun he => by
      rw [he] at hl'
      have := msKeyed.inj hl hl'
      unfold msgV at this
      simp only [Value.agg.injEq, Array.mk.injEq, List.cons.injEq, Value.int.injEq, true_and, and_true] at this
      apply hxy
      obtain ⟨⟨a, b⟩, ⟨c, d⟩⟩ := x
      obtain ⟨⟨a', b'⟩, ⟨c', d'⟩⟩ := y
      simp only [Prod.mk.injEq] at this ⊢
      omega
    rw [Go.Maps.atKey_put_other hne, h2 y l' hl']
    simp [hxy]
end
end Go.Proofs.Ytdenojfbdkdpiaa
