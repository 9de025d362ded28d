/-
  Traces in plain Lean: events, their order, cycles, and the peeling of events that nothing comes before. The fault of a trace in plain Lean: stage by stage, and the search for cycles. Traces whose numbers are paired: who comes directly before an event and behind it, and the search for a cycle. A trace in memory.
  Conditions: as each theorem says.
-/
import Derived.Test.YtpmponafjhnegaaGreatDoorBase
namespace Go.Proofs.YtpmponafjhnegaaGreatDoor
section
/-- an event -/
structure Ev where
  kind : Int
  peer : Int
  msg : Int
  time : Int
  asg : List (Int × Int)
/-- a process -/
structure Pr where
  name : ByteArray
  vars : List (ByteArray × Int)
  evs : List Ev
/-- the number of the events of a process -/
def evN (t : List Pr) (p : Nat) : Nat := match t[p]? with | some x => x.evs.length | none => 0
def evAt (t : List Pr) (p i : Nat) : Option Ev := (t[p]?).bind fun x => x.evs[i]?
/-- a name of an event: its index is from 1 on -/
def InT (t : List Pr) (x : Nat × Nat) : Prop := 1 ≤ x.2 ∧ x.2 ≤ evN t x.1
def Bef (x y : Nat × Nat) : Prop := x.1 < y.1 ∨ (x.1 = y.1 ∧ x.2 < y.2)
theorem evAt_some {t : List Pr} {p i : Nat} (h : i < evN t p) : ∃ e, evAt t p i = some e := by
  unfold evN at h; unfold evAt
  cases hp : t[p]? with
  | none => rw [hp] at h; simp at h
  | some x => rw [hp] at h; exact ⟨x.evs[i], by simp [List.getElem?_eq_getElem h]⟩
theorem evAt_lt {t : List Pr} {p i : Nat} {e : Ev} (h : evAt t p i = some e) : i < evN t p := by
  unfold evAt at h; unfold evN
  cases hp : t[p]? with
  | none => rw [hp] at h; simp at h
  | some x => rw [hp] at h; exact (List.getElem?_eq_some_iff.1 h).1
/-- x comes directly before y -/
def Dir (t : List Pr) (x y : Nat × Nat) : Prop :=
  InT t x ∧ InT t y ∧ ((x.1 = y.1 ∧ x.2 + 1 = y.2) ∨ ∃ e f, evAt t x.1 (x.2 - 1) = some e ∧ evAt t y.1 (y.2 - 1) = some f ∧ e.kind = 2 ∧ f.kind = 3 ∧ e.msg = f.msg)
def Hap (t : List Pr) (x y : Nat × Nat) : Prop := Relation.TransGen (Dir t) x y
def OnC (t : List Pr) (x : Nat × Nat) : Prop := Hap t x x
theorem hap_in {t : List Pr} {x y : Nat × Nat} (h : Hap t x y) : InT t x ∧ InT t y := by
  induction h with
  | single h => exact ⟨h.1, h.2.1⟩
  | tail _ h ih => exact ⟨ih.1, h.2.1⟩
theorem hap_head {t : List Pr} {x y z : Nat × Nat} (h : Dir t x y) (g : Hap t y z) : Hap t x z := by
  induction g with
  | single g => exact .tail (.single h) g
  | tail _ g ih => exact .tail ih g
theorem hap_trans {t : List Pr} {x y z : Nat × Nat} (h : Hap t x y) (g : Hap t y z) : Hap t x z := by
  induction g with
  | single g => exact .tail h g
  | tail _ g ih => exact .tail ih g
/-- the first step of a way -/
theorem hap_first {t : List Pr} {x z : Nat × Nat} (h : Hap t x z) : ∃ y, Dir t x y ∧ (y = z ∨ Hap t y z) := by
  induction h with
  | single h => exact ⟨_, h, .inl rfl⟩
  | tail _ g ih =>
    obtain ⟨y, h1, h2⟩ := ih
    refine ⟨y, h1, .inr ?_⟩
    rcases h2 with rfl | h2
    · exact .single g
    · exact .tail h2 g
/-- the last step of a way -/
theorem hap_last {t : List Pr} {x z : Nat × Nat} (h : Hap t x z) : ∃ y, Dir t y z ∧ (x = y ∨ Hap t x y) := by
  cases h with
  | single h => exact ⟨_, h, .inl rfl⟩
  | tail h g => exact ⟨_, g, .inr h⟩
/-- a set that holds with each event those directly before it holds those before it -/
theorem hap_closed {t : List Pr} {S : Nat × Nat → Prop} (hS : ∀ x y, Dir t x y → S y → S x) {x y : Nat × Nat} (h : Hap t x y) (hy : S y) : S x := by
  induction h with
  | single h => exact hS _ _ h hy
  | tail _ g ih => exact ih (hS _ _ g hy)
/-- a set that holds with each event those directly after it -/
theorem hap_open {t : List Pr} {S : Nat × Nat → Prop} (hS : ∀ x y, Dir t x y → S x → S y) {x y : Nat × Nat} (h : Hap t x y) (hx : S x) : S y := by
  induction h with
  | single h => exact hS _ _ h hx
  | tail _ g ih => exact hS _ _ g ih
/-- of more numbers than there are places two are equal -/
theorem pigeon : ∀ (N : Nat) (f : Nat → Nat), (∀ k, k ≤ N → f k < N) → ∃ i j, i < j ∧ j ≤ N ∧ f i = f j
  | 0, f, h => absurd (h 0 (by omega)) (by omega)
  | N + 1, f, h => by
    by_cases hv : ∃ i, i ≤ N ∧ f i = f (N + 1)
    · obtain ⟨i, h1, h2⟩ := hv
      exact ⟨i, N + 1, by omega, by omega, h2⟩
    · have hn : ∀ i, i ≤ N → f i ≠ f (N + 1) := fun i hi he => hv ⟨i, hi, he⟩
      have hv2 := h (N + 1) (by omega)
      obtain ⟨i, j, h1, h2, h3⟩ := pigeon N (fun k => if f k = N then f (N + 1) else f k) (fun k hk => by
        have h4 := h k (by omega)
        have h5 := hn k hk
        split
        · omega
        · omega)
      refine ⟨i, j, h1, by omega, ?_⟩
      have hi := hn i (by omega)
      have hj := hn j (by omega)
      split at h3 <;> split at h3 <;> omega
/-- the events as numbers -/
def sumN : List Pr → Nat
  | [] => 0
  | x :: l => x.evs.length + sumN l
def code : List Pr → Nat × Nat → Nat
  | [], _ => 0
  | _ :: _, (0, i) => i - 1
  | x :: l, (p + 1, i) => x.evs.length + code l (p, i)
theorem evN_zero (x : Pr) (l : List Pr) : evN (x :: l) 0 = x.evs.length := by simp [evN]
theorem evN_succ (x : Pr) (l : List Pr) (p : Nat) : evN (x :: l) (p + 1) = evN l p := by simp [evN]
theorem code_lt : ∀ (t : List Pr) (p i : Nat), InT t (p, i) → code t (p, i) < sumN t
  | [], p, i, h => by simp [InT, evN] at h; omega
  | x :: l, 0, i, h => by
    have h1 := h.1; have h2 := h.2
    simp only [evN_zero] at h1 h2
    simp only [code, sumN]; omega
  | x :: l, p + 1, i, h => by
    have := code_lt l p i ⟨h.1, by have := h.2; simpa only [evN_succ] using this⟩
    simp only [code, sumN]; omega
theorem code_inj : ∀ (t : List Pr) (p i q j : Nat), InT t (p, i) → InT t (q, j) → code t (p, i) = code t (q, j) → (p, i) = (q, j)
  | [], p, i, q, j, h, _, _ => by simp [InT, evN] at h; omega
  | x :: l, 0, i, 0, j, h, g, he => by
    have h1 := h.1; have h2 := g.1
    simp only [code] at he
    simp only at h1 h2
    have : i = j := by omega
    rw [this]
  | x :: l, 0, i, q + 1, j, h, g, he => by
    have h1 := h.1; have h2 := h.2
    simp only [evN_zero] at h1 h2
    simp only [code] at he
    omega
  | x :: l, p + 1, i, 0, j, h, g, he => by
    have h1 := g.1; have h2 := g.2
    simp only [evN_zero] at h1 h2
    simp only [code] at he
    omega
  | x :: l, p + 1, i, q + 1, j, h, g, he => by
    simp only [code] at he
    have := code_inj l p i q j ⟨h.1, by have := h.2; simpa only [evN_succ] using this⟩ ⟨g.1, by have := g.2; simpa only [evN_succ] using this⟩ (by omega)
    simp only [Prod.mk.injEq] at this ⊢
    omega
/-- events each of which has another one of them directly before it: some is on a cycle -/
theorem cycle_of {t : List Pr} {S : Nat × Nat → Prop} (hS : ∀ y, S y → ∃ x, S x ∧ Dir t x y) {z : Nat × Nat} (hz : S z) : ∃ x, OnC t x := by
  have hg : ∀ y : {y // S y}, ∃ x : {x // S x}, Dir t x.1 y.1 := fun y => by
    obtain ⟨x, h1, h2⟩ := hS y.1 y.2
    exact ⟨⟨x, h1⟩, h2⟩
  obtain ⟨g, hg⟩ := Classical.axiomOfChoice hg
  let a : Nat → {y // S y} := fun k => Nat.rec ⟨z, hz⟩ (fun _ y => g y) k
  have ha : ∀ k, Dir t (a (k + 1)).1 (a k).1 := fun k => hg (a k)
  have hway : ∀ d i, Hap t (a (i + d + 1)).1 (a i).1 := fun d => by
    induction d with
    | zero => exact fun i => .single (ha i)
    | succ d ih => exact fun i => hap_head (ha (i + d + 1)) (ih i)
  have hin : ∀ k, InT t (a k).1 := fun k => (ha k).2.1
  obtain ⟨i, j, h1, -, h2⟩ := pigeon (sumN t) (fun k => code t (a k).1) (fun k _ => code_lt t _ _ (hin k))
  have h3 : (a i).1 = (a j).1 := code_inj t _ _ _ _ (hin i) (hin j) h2
  have h4 := hway (j - i - 1) i
  rw [show i + (j - i - 1) + 1 = j by omega, ← h3] at h4
  exact ⟨_, h4⟩
/-- the events that are taken away -/
def Done (d : Nat → Nat) (x : Nat × Nat) : Prop := 1 ≤ x.2 ∧ x.2 ≤ d x.1
/-- nothing that is taken away is on a cycle, and what comes directly before it is taken away, too -/
structure Peel (t : List Pr) (d : Nat → Nat) : Prop where
  le : ∀ p, d p ≤ evN t p
  closed : ∀ x y, Dir t x y → Done d y → Done d x
  free : ∀ x, Done d x → ¬ OnC t x
theorem peel_zero (t : List Pr) : Peel t (fun _ => 0) :=
  ⟨fun p => by omega, fun x y _ h => absurd (show y.2 ≤ 0 from h.2) (by have := h.1; omega), fun x h => absurd (show x.2 ≤ 0 from h.2) (by have := h.1; omega)⟩
def bump (d : Nat → Nat) (p : Nat) : Nat → Nat := fun q => if q = p then d p + 1 else d q
theorem peel_bump {t : List Pr} {d : Nat → Nat} (h : Peel t d) {p : Nat} (hp : d p < evN t p) (hd : ∀ x, Dir t x (p, d p + 1) → Done d x) : Peel t (bump d p) := by
  have hup : ∀ x, Done d x → Done (bump d p) x := fun x hx => by
    refine ⟨hx.1, ?_⟩
    have := hx.2
    unfold bump
    split
    · rename_i he; rw [he] at this; omega
    · exact this
  have hdn : ∀ x, Done (bump d p) x → Done d x ∨ x = (p, d p + 1) := fun x hx => by
    have h1 := hx.1
    have h2 := hx.2
    unfold bump at h2
    split at h2
    · rename_i he
      by_cases h3 : x.2 ≤ d p
      · exact .inl ⟨h1, by rw [he]; exact h3⟩
      · right
        have : x.2 = d p + 1 := by omega
        obtain ⟨a, b⟩ := x
        simp only at he this
        rw [he, this]
    · exact .inl ⟨h1, h2⟩
  refine ⟨fun q => ?_, fun x y hxy hy => ?_, fun x hx => ?_⟩
  · unfold bump
    split
    · rename_i he; rw [he]; omega
    · exact h.le q
  · rcases hdn y hy with hy | rfl
    · exact hup x (h.closed x y hxy hy)
    · exact hup x (hd x hxy)
  · rcases hdn x hx with hx | rfl
    · exact h.free x hx
    · intro hc
      obtain ⟨u, hu, hw⟩ := hap_last hc
      have hu2 := hd u hu
      rcases hw with rfl | hw
      · have := hu2.2; dsimp only at this; omega
      · have := (hap_closed h.closed hw hu2).2; dsimp only at this; omega
/-- all are taken away: there is no cycle -/
theorem peel_all {t : List Pr} {d : Nat → Nat} (h : Peel t d) (hd : ∀ p, d p = evN t p) (x : Nat × Nat) : ¬ OnC t x := fun hc =>
  h.free x ⟨(hap_in hc).1.1, by rw [hd]; exact (hap_in hc).1.2⟩ hc
/-- nothing more can be taken away, and something is left: there is a cycle -/
theorem peel_stuck {t : List Pr} {d : Nat → Nat} (hd : ∀ p, d p < evN t p → ∃ x, Dir t x (p, d p + 1) ∧ ¬ Done d x) {p : Nat} (hp : d p < evN t p) : ∃ x, OnC t x := by
  refine cycle_of (S := fun y => InT t y ∧ ¬ Done d y) (fun y hy => ?_) (z := (p, d p + 1)) ⟨⟨by dsimp only; omega, hp⟩, fun hx => by have := hx.2; dsimp only at this; omega⟩
  obtain ⟨⟨h1, h2⟩, h3⟩ := hy
  have h4 : d y.1 < y.2 := Nat.lt_of_not_le fun hle => h3 ⟨h1, hle⟩
  by_cases h5 : y.2 = d y.1 + 1
  · obtain ⟨x, hx, hn⟩ := hd y.1 (by omega)
    rw [← h5] at hx
    exact ⟨x, ⟨hx.1, hn⟩, hx⟩
  · have hi : InT t (y.1, y.2 - 1) := ⟨by dsimp only; omega, by dsimp only; omega⟩
    exact ⟨(y.1, y.2 - 1), ⟨hi, fun hx => by have := hx.2; dsimp only at this; omega⟩, hi, ⟨h1, h2⟩, .inl ⟨rfl, by dsimp only; omega⟩⟩
end
section
open Classical in
/-- the first number below n with a value that is not 0: the value; else 0 -/
noncomputable def firstN (f : Nat → Nat) (n : Nat) : Nat :=
  if h : ∃ i, i < n ∧ f i ≠ 0 ∧ ∀ j, j < i → f j = 0 then f (Classical.choose h) else 0
theorem firstN_some {f : Nat → Nat} {n i : Nat} (h1 : i < n) (h2 : f i ≠ 0) (h3 : ∀ j, j < i → f j = 0) : firstN f n = f i := by
  have h : ∃ i, i < n ∧ f i ≠ 0 ∧ ∀ j, j < i → f j = 0 := ⟨i, h1, h2, h3⟩
  unfold firstN
  rw [dif_pos h]
  obtain ⟨-, g2, g3⟩ := Classical.choose_spec h
  rcases Nat.lt_trichotomy (Classical.choose h) i with hl | he | hl
  · exact absurd (h3 _ hl) g2
  · rw [he]
  · exact absurd (g3 _ hl) h2
theorem firstN_none {f : Nat → Nat} {n : Nat} (h : ∀ j, j < n → f j = 0) : firstN f n = 0 := by
  unfold firstN
  rw [dif_neg]
  rintro ⟨i, h1, h2, -⟩
  exact h2 (h i h1)
theorem bef_tri (x y : Nat × Nat) : Bef x y ∨ x = y ∨ Bef y x := by
  obtain ⟨a, b⟩ := x
  obtain ⟨c, d⟩ := y
  unfold Bef
  simp only [Prod.mk.injEq]
  omega
theorem bef_trans {x y z : Nat × Nat} (h : Bef x y) (g : Bef y z) : Bef x z := by
  unfold Bef at *
  omega
theorem bef_irr (x : Nat × Nat) : ¬ Bef x x := by
  unfold Bef
  omega
/-- the first event of a sort -/
def IsF (t : List Pr) (Q : Nat × Nat → Prop) (x : Nat × Nat) : Prop := InT t x ∧ Q x ∧ ∀ y, InT t y → Bef y x → ¬ Q y
theorem isF_eq {t : List Pr} {Q : Nat × Nat → Prop} {x y : Nat × Nat} (h : IsF t Q x) (g : IsF t Q y) : x = y := by
  rcases bef_tri x y with hl | he | hl
  · exact absurd h.2.1 (g.2.2 x h.1 hl)
  · exact he
  · exact absurd g.2.1 (h.2.2 y g.1 hl)
open Classical in
noncomputable def firstE (t : List Pr) (Q : Nat × Nat → Prop) : Option (Nat × Nat) := if h : ∃ x, IsF t Q x then some (Classical.choose h) else none
theorem firstE_some {t : List Pr} {Q : Nat × Nat → Prop} {x : Nat × Nat} (h : IsF t Q x) : firstE t Q = some x := by
  unfold firstE
  rw [dif_pos ⟨x, h⟩]
  exact congrArg some (isF_eq (Classical.choose_spec (⟨x, h⟩ : ∃ x, IsF t Q x)) h)
theorem firstE_none {t : List Pr} {Q : Nat × Nat → Prop} (h : ∀ x, InT t x → ¬ Q x) : firstE t Q = none := by
  unfold firstE
  rw [dif_neg]
  rintro ⟨x, h1, h2, -⟩
  exact h x h1 h2
/-- of a sort that some event is of one is the first -/
theorem exists_first {t : List Pr} {Q : Nat × Nat → Prop} : ∀ (n : Nat) (x : Nat × Nat), InT t x → Q x → code t x < n → ∃ y, IsF t Q y ∧ (y = x ∨ Bef y x)
  | 0, _, _, _, h => absurd h (by omega)
  | n + 1, x, h1, h2, h3 => by
    by_cases h : ∃ y, InT t y ∧ Bef y x ∧ Q y
    · obtain ⟨y, g1, g2, g3⟩ := h
      have hc : code t y < code t x := code_mono t y.1 y.2 x.1 x.2 g1 h1 g2
      obtain ⟨z, hz, hb⟩ := exists_first n y g1 g3 (by omega)
      refine ⟨z, hz, .inr ?_⟩
      rcases hb with rfl | hb
      · exact g2
      · exact bef_trans hb g2
    · exact ⟨x, ⟨h1, h2, fun y g1 g2 g3 => h ⟨y, g1, g2, g3⟩⟩, .inl rfl⟩
where
  code_mono : ∀ (t : List Pr) (p i q j : Nat), InT t (p, i) → InT t (q, j) → Bef (p, i) (q, j) → code t (p, i) < code t (q, j)
  | [], p, i, q, j, h, _, _ => by simp [InT, evN] at h; omega
  | x :: l, 0, i, 0, j, h, g, hb => by
    have h1 := h.1; have h2 := g.1
    unfold Bef at hb
    simp only at h1 h2 hb
    simp only [code]; omega
  | x :: l, 0, i, q + 1, j, h, g, hb => by
    have h1 := h.1; have h2 := h.2
    simp only [evN_zero] at h1 h2
    simp only [code]; omega
  | x :: l, p + 1, i, 0, j, h, g, hb => by
    unfold Bef at hb
    simp only at hb
    omega
  | x :: l, p + 1, i, q + 1, j, h, g, hb => by
    simp only [code]
    have := code_mono l p i q j ⟨h.1, by have := h.2; simpa only [evN_succ] using this⟩ ⟨g.1, by have := g.2; simpa only [evN_succ] using this⟩ (by unfold Bef at *; simp only at hb ⊢; omega)
    omega
/-- letters, and signs of names -/
def letB (c : UInt8) : Bool := (decide (97 ≤ c.toNat) && decide (c.toNat ≤ 122)) || (decide (65 ≤ c.toNat) && decide (c.toNat ≤ 90))
def digB (c : UInt8) : Bool := decide (48 ≤ c.toNat) && decide (c.toNat ≤ 57)
def prtB (c : UInt8) : Bool := letB c || digB c || decide (c.toNat = 95)
def nameB (s : ByteArray) : Bool := decide (1 ≤ s.size) && decide (s.size ≤ 16) && s.data.toList.all prtB && (s.data.toList.head?.all letB)
def valB (n : Int) : Bool := decide (-1073741824 ≤ n) && decide (n ≤ 1073741824)
/-- the fault of a variable -/
def varE (vs : List (ByteArray × Int)) (i : Nat) : Nat :=
  match vs[i]? with
  | none => 0
  | some v => if !nameB v.1 || (vs.take i).any (fun u => decide (u.1 = v.1)) then 13 else if !valB v.2 then 2 else 0
/-- the fault of a process without its events -/
noncomputable def headE (t : List Pr) (p : Nat) : Nat :=
  match t[p]? with
  | none => 0
  | some x =>
    if !nameB x.name || (t.take p).any (fun y => decide (y.name = x.name)) then 13
    else if 8 < x.vars.length then 5
    else if firstN (varE x.vars) x.vars.length ≠ 0 then firstN (varE x.vars) x.vars.length
    else if 64 < x.evs.length then 5 else 0
/-- the fault of an assignment -/
def asgE (n : Nat) (l : List (Int × Int)) (i : Nat) : Nat :=
  match l[i]? with
  | none => 0
  | some a => if a.1 < 0 ∨ (n : Int) ≤ a.1 ∨ !valB a.2 then 2 else if (l.take i).any (fun b => decide (b.1 = a.1)) then 8 else 0
/-- whether kind, peer and message belong together -/
def frmB (n p : Nat) (e : Ev) : Bool :=
  if e.kind = 1 then decide (e.peer = 0) && decide (e.msg = 0)
  else decide (e.kind = 2 ∨ e.kind = 3) && (decide (0 ≤ e.peer) && decide (e.peer < (n : Int))) && !decide (e.peer = (p : Int)) && (decide (0 ≤ e.msg) && decide (e.msg ≤ 199))
/-- the fault of an event by itself, given the process's number, its variables and the time before -/
noncomputable def evE (n p vs : Nat) (last : Int) (e : Ev) : Nat :=
  if !frmB n p e then 3
  else if e.time < 0 ∨ 1099511627776 < e.time ∨ e.time < last then 11
  else if 8 < e.asg.length then 5
  else firstN (asgE vs e.asg) e.asg.length
def lastT (x : Pr) (i : Nat) : Int := if i = 0 then 0 else match x.evs[i - 1]? with | some e => e.time | none => 0
noncomputable def formE (t : List Pr) (x : Nat × Nat) : Nat :=
  match t[x.1]? with
  | none => 0
  | some y => match y.evs[x.2 - 1]? with
    | none => 0
    | some e => evE t.length x.1 y.vars.length (lastT y (x.2 - 1)) e
/-- the event is of a kind and has a number -/
def Sel (t : List Pr) (k m : Int) (x : Nat × Nat) : Prop := ∃ e, evAt t x.1 (x.2 - 1) = some e ∧ e.kind = k ∧ e.msg = m
/-- a process sends a number to another one -/
def Snds (t : List Pr) (p m q : Int) : Prop := ∃ (x : Pr) (e : Ev), 0 ≤ p ∧ t[p.toNat]? = some x ∧ e ∈ x.evs ∧ e.kind = 2 ∧ e.msg = m ∧ e.peer = q
open Classical in
noncomputable def pairE (t : List Pr) (x : Nat × Nat) : Nat :=
  match evAt t x.1 (x.2 - 1) with
  | none => 0
  | some e => if e.kind = 1 then 0 else if ∃ y, InT t y ∧ Bef y x ∧ Sel t e.kind e.msg y then 8 else if e.kind = 3 ∧ ¬ Snds t e.peer e.msg (x.1 : Int) then 7 else 0
open Classical in
/-- the fault of a trace -/
noncomputable def faultO (t : List Pr) : (Nat × Nat) × Nat :=
  if t.length < 1 ∨ 8 < t.length then ((0, 0), 1)
  else if h : ∃ p, p < t.length ∧ headE t p ≠ 0 ∧ ∀ q, q < p → headE t q = 0 then ((Classical.choose h, 0), headE t (Classical.choose h))
  else match firstE t (fun x => formE t x ≠ 0) with
    | some x => (x, formE t x)
    | none => match firstE t (fun x => pairE t x ≠ 0) with
      | some x => (x, pairE t x)
      | none => match firstE t (OnC t) with
        | some x => (x, 10)
        | none => ((0, 0), 0)
theorem fault_arg {t : List Pr} (h : t.length < 1 ∨ 8 < t.length) : faultO t = ((0, 0), 1) := by
  unfold faultO
  rw [if_pos h]
theorem fault_head {t : List Pr} (h : ¬ (t.length < 1 ∨ 8 < t.length)) {p : Nat} (h1 : p < t.length) (h2 : headE t p ≠ 0) (h3 : ∀ q, q < p → headE t q = 0) : faultO t = ((p, 0), headE t p) := by
  have hx : ∃ p, p < t.length ∧ headE t p ≠ 0 ∧ ∀ q, q < p → headE t q = 0 := ⟨p, h1, h2, h3⟩
  unfold faultO
  rw [if_neg h, dif_pos hx]
  obtain ⟨-, g2, g3⟩ := Classical.choose_spec hx
  rcases Nat.lt_trichotomy (Classical.choose hx) p with hl | he | hl
  · exact absurd (h3 _ hl) g2
  · rw [he]
  · exact absurd (g3 _ hl) h2
section
variable {t : List Pr} (h : ¬ (t.length < 1 ∨ 8 < t.length)) (hh : ∀ q, q < t.length → headE t q = 0)
include h hh
theorem fault_form {x : Nat × Nat} (hx : IsF t (fun x => formE t x ≠ 0) x) : faultO t = (x, formE t x) := by
  unfold faultO
  rw [if_neg h, dif_neg (by rintro ⟨p, h1, h2, -⟩; exact h2 (hh p h1)), firstE_some hx]
variable (hf : ∀ x, InT t x → formE t x = 0)
include hf
theorem fault_pair {x : Nat × Nat} (hx : IsF t (fun x => pairE t x ≠ 0) x) : faultO t = (x, pairE t x) := by
  unfold faultO
  rw [if_neg h, dif_neg (by rintro ⟨p, h1, h2, -⟩; exact h2 (hh p h1)), firstE_none (fun y hy hn => hn (hf y hy)), firstE_some hx]
variable (hp : ∀ x, InT t x → pairE t x = 0)
include hp
theorem fault_cycle {x : Nat × Nat} (hx : IsF t (OnC t) x) : faultO t = (x, 10) := by
  unfold faultO
  rw [if_neg h, dif_neg (by rintro ⟨p, h1, h2, -⟩; exact h2 (hh p h1)), firstE_none (fun y hy hn => hn (hf y hy)), firstE_none (fun y hy hn => hn (hp y hy)), firstE_some hx]
theorem fault_none (hx : ∀ x, ¬ OnC t x) : faultO t = ((0, 0), 0) := by
  unfold faultO
  rw [if_neg h, dif_neg (by rintro ⟨p, h1, h2, -⟩; exact h2 (hh p h1)), firstE_none (fun y hy hn => hn (hf y hy)), firstE_none (fun y hy hn => hn (hp y hy)), firstE_none (fun y _ => hx y)]
end
/-- what a trace without fault has -/
theorem fault_zero {t : List Pr} (h0 : (faultO t).2 = 0) : ¬ (t.length < 1 ∨ 8 < t.length) ∧ (∀ q, q < t.length → headE t q = 0) ∧ (∀ x, InT t x → formE t x = 0) ∧ (∀ x, InT t x → pairE t x = 0) ∧ ∀ x, ¬ OnC t x := by
  by_cases h : t.length < 1 ∨ 8 < t.length
  · rw [fault_arg h] at h0; simp at h0
  have hh : ∀ q, q < t.length → headE t q = 0 := by
    intro q
    induction q using Nat.strongRecOn with
    | ind q ih =>
      intro hq
      apply Classical.byContradiction
      intro hn
      rw [fault_head h hq hn (fun r hr => ih r hr (by omega))] at h0
      exact hn h0
  have hf : ∀ x, InT t x → formE t x = 0 := fun x hx => by
    apply Classical.byContradiction
    intro hn
    obtain ⟨y, hy, -⟩ := exists_first (Q := fun x => formE t x ≠ 0) _ x hx hn (Nat.lt_succ_self _)
    rw [fault_form h hh hy] at h0
    exact hy.2.1 h0
  have hp : ∀ x, InT t x → pairE t x = 0 := fun x hx => by
    apply Classical.byContradiction
    intro hn
    obtain ⟨y, hy, -⟩ := exists_first (Q := fun x => pairE t x ≠ 0) _ x hx hn (Nat.lt_succ_self _)
    rw [fault_pair h hh hf hy] at h0
    exact hy.2.1 h0
  refine ⟨h, hh, hf, hp, fun x hn => ?_⟩
  obtain ⟨y, hy, -⟩ := exists_first (Q := OnC t) _ x (hap_in hn).1 hn (Nat.lt_succ_self _)
  rw [fault_cycle h hh hf hp hy] at h0
  simp at h0
end
section
/-- the first event of a kind with a number; (0, 0) if there is none -/
noncomputable def findO (t : List Pr) (k m : Int) : Nat × Nat := (firstE t (Sel t k m)).getD (0, 0)
theorem find_first {t : List Pr} {k m : Int} {x : Nat × Nat} (h : IsF t (Sel t k m) x) : findO t k m = x := by
  unfold findO
  rw [firstE_some h]
  rfl
theorem find_none {t : List Pr} {k m : Int} (h : ∀ x, InT t x → ¬ Sel t k m x) : findO t k m = (0, 0) := by
  unfold findO
  rw [firstE_none h]
  rfl
/-- either there is none, or it is found -/
theorem find_or (t : List Pr) (k m : Int) : ((∀ x, InT t x → ¬ Sel t k m x) ∧ findO t k m = (0, 0)) ∨ IsF t (Sel t k m) (findO t k m) := by
  by_cases h : ∃ x, InT t x ∧ Sel t k m x
  · obtain ⟨x, h1, h2⟩ := h
    obtain ⟨y, hy, -⟩ := exists_first (Q := Sel t k m) _ x h1 h2 (Nat.lt_succ_self _)
    exact .inr (by rw [find_first hy]; exact hy)
  · have hn : ∀ x, InT t x → ¬ Sel t k m x := fun x h1 h2 => h ⟨x, h1, h2⟩
    exact .inl ⟨hn, find_none hn⟩
/-- each number is sent once, and received once at most, and behind each receive stands a send -/
structure Paired (t : List Pr) : Prop where
  one : ∀ k m x y, k ≠ 1 → InT t x → InT t y → Sel t k m x → Sel t k m y → x = y
  sent : ∀ y f, InT t y → evAt t y.1 (y.2 - 1) = some f → f.kind = 3 → ∃ x, InT t x ∧ Sel t 2 f.msg x
theorem paired_of {t : List Pr} (hp : ∀ x, InT t x → pairE t x = 0) : Paired t := by
  have hone : ∀ k m x y, k ≠ 1 → InT t x → InT t y → Sel t k m x → Sel t k m y → ¬ Bef x y := by
    rintro k m x y hk hx hy hsx ⟨e, he, rfl, rfl⟩ hb
    have h := hp y hy
    unfold pairE at h
    rw [he] at h
    dsimp only at h
    rw [if_neg hk, if_pos ⟨x, hx, hb, hsx⟩] at h
    cases h
  refine ⟨fun k m x y hk hx hy hsx hsy => ?_, fun y f hy he hk => ?_⟩
  · rcases bef_tri x y with hl | he | hl
    · exact absurd hl (hone k m x y hk hx hy hsx hsy)
    · exact he
    · exact absurd hl (hone k m y x hk hy hx hsy hsx)
  · have h := hp y hy
    unfold pairE at h
    rw [he] at h
    dsimp only at h
    rw [if_neg (by rw [hk]; decide)] at h
    split at h
    · cases h
    · split at h
      · cases h
      · rename_i hn
        have hs : Snds t f.peer f.msg (y.1 : Int) := Classical.byContradiction fun hs => hn ⟨hk, hs⟩
        obtain ⟨x, e, h1, h2, h3, h4, h5, h6⟩ := hs
        obtain ⟨i, hi, hie⟩ := List.getElem_of_mem h3
        have ha : evAt t f.peer.toNat i = some e := by
          unfold evAt
          rw [h2]
          simp [List.getElem?_eq_getElem hi, hie]
        refine ⟨(f.peer.toNat, i + 1), ⟨by dsimp only; omega, by have := evAt_lt ha; dsimp only; omega⟩, e, by simpa using ha, h4, h5⟩
theorem evAt_in {t : List Pr} {x : Nat × Nat} (h : InT t x) : ∃ e, evAt t x.1 (x.2 - 1) = some e := evAt_some (by have := h.1; have := h.2; omega)
theorem find_eq {t : List Pr} (hP : Paired t) {k m : Int} {x : Nat × Nat} (hk : k ≠ 1) (hx : InT t x) (hs : Sel t k m x) : findO t k m = x :=
  find_first ⟨hx, hs, fun y hy hb hsy => bef_irr x (by rw [hP.one k m y x hk hy hx hsy hs] at hb; exact hb)⟩
theorem find_sent {t : List Pr} (hP : Paired t) {y : Nat × Nat} {f : Ev} (hy : InT t y) (he : evAt t y.1 (y.2 - 1) = some f) (hk : f.kind = 3) : InT t (findO t 2 f.msg) ∧ Sel t 2 f.msg (findO t 2 f.msg) := by
  obtain ⟨x, hx, hs⟩ := hP.sent y f hy he hk
  rw [find_eq hP (by decide) hx hs]
  exact ⟨hx, hs⟩
/-- who comes directly before an event -/
theorem dir_back {t : List Pr} (hP : Paired t) {x y : Nat × Nat} : Dir t x y ↔ InT t y ∧ ((2 ≤ y.2 ∧ x = (y.1, y.2 - 1)) ∨ ∃ f, evAt t y.1 (y.2 - 1) = some f ∧ f.kind = 3 ∧ x = findO t 2 f.msg) := by
  constructor
  · rintro ⟨hx, hy, ⟨h1, h2⟩ | ⟨e, f, h1, h2, h3, h4, h5⟩⟩
    · refine ⟨hy, .inl ⟨by have := hx.1; omega, ?_⟩⟩
      obtain ⟨a, b⟩ := x
      simp only at h1 h2
      rw [h1, ← h2, Nat.add_sub_cancel]
    · exact ⟨hy, .inr ⟨f, h2, h4, (find_eq hP (by decide) hx ⟨e, h1, h3, h5⟩).symm⟩⟩
  · rintro ⟨hy, ⟨h1, rfl⟩ | ⟨f, h1, h2, rfl⟩⟩
    · have := hy.2
      exact ⟨⟨by dsimp only; omega, by dsimp only; omega⟩, hy, .inl ⟨rfl, by dsimp only; omega⟩⟩
    · obtain ⟨hx, e, he, hk, hm⟩ := find_sent hP hy h1 h2
      exact ⟨hx, hy, .inr ⟨e, f, he, h1, hk, h2, hm⟩⟩
/-- who comes directly behind an event -/
theorem dir_on {t : List Pr} (hP : Paired t) {x y : Nat × Nat} : Dir t x y ↔ InT t x ∧ ((x.2 < evN t x.1 ∧ y = (x.1, x.2 + 1)) ∨ ∃ e, evAt t x.1 (x.2 - 1) = some e ∧ e.kind = 2 ∧ 0 < (findO t 3 e.msg).2 ∧ y = findO t 3 e.msg) := by
  constructor
  · rintro ⟨hx, hy, ⟨h1, h2⟩ | ⟨e, f, h1, h2, h3, h4, h5⟩⟩
    · refine ⟨hx, .inl ⟨by have := hy.2; rw [h1]; omega, ?_⟩⟩
      obtain ⟨a, b⟩ := y
      simp only at h1 h2
      rw [h1, h2]
    · have hf := find_eq hP (by decide) hy (show Sel t 3 e.msg y from ⟨f, h2, h4, h5.symm⟩)
      exact ⟨hx, .inr ⟨e, h1, h3, by rw [hf]; exact hy.1, hf.symm⟩⟩
  · rintro ⟨hx, ⟨h1, rfl⟩ | ⟨e, h1, h2, h3, rfl⟩⟩
    · exact ⟨hx, ⟨by dsimp only; omega, by dsimp only; omega⟩, .inl ⟨rfl, rfl⟩⟩
    · rcases find_or t 3 e.msg with ⟨-, h4⟩ | ⟨hy, ⟨f, hf, hk, hm⟩, -⟩
      · rw [h4] at h3; exact absurd h3 (by decide)
      · exact ⟨hx, hy, .inr ⟨e, f, h1, hf, h2, hk, hm.symm⟩⟩
/-- a list without doubles of events is no longer than all events -/
theorem nodup_le {t : List Pr} {l : List (Nat × Nat)} (hn : l.Nodup) (hi : ∀ y, y ∈ l → InT t y) : l.length ≤ sumN t := by
  apply Classical.byContradiction
  intro hl
  obtain ⟨i, j, h1, h2, h3⟩ := pigeon (sumN t) (fun k => if h : k < l.length then code t l[k] else 0) (fun k hk => by
    have hk : k < l.length := by omega
    rw [dif_pos hk]
    exact code_lt t _ _ (hi _ (List.getElem_mem hk)))
  have hj : j < l.length := by omega
  have hi2 : i < l.length := by omega
  rw [dif_pos hi2, dif_pos hj] at h3
  have he : l[i] = l[j] := code_inj t _ _ _ _ (hi _ (List.getElem_mem hi2)) (hi _ (List.getElem_mem hj)) h3
  have := (List.pairwise_iff_getElem.1 hn) i j hi2 hj h1
  exact this he
/-- the search from z: s are those seen, r those to be visited, b those to be looked at behind x -/
structure Srch (t : List Pr) (z : Nat × Nat) (s r : List (Nat × Nat)) (x : Nat × Nat) (b : List (Nat × Nat)) : Prop where
  nodup : s.Nodup
  seen : ∀ y, y ∈ s → Hap t z y ∧ y ≠ z
  rest : ∀ y, y ∈ r → y = z ∨ y ∈ s
  at_ : b ≠ [] → x = z ∨ x ∈ s
  pend : ∀ y, y ∈ b → Dir t x y
  done : ∀ u v, (u = z ∨ u ∈ s) → u ∉ r → Dir t u v → v ∈ s ∨ (u = x ∧ v ∈ b)
theorem srch_start (t : List Pr) (z : Nat × Nat) : Srch t z [] [z] z [] := by
  refine ⟨List.nodup_nil, fun y h => absurd h List.not_mem_nil, fun y h => .inl (List.mem_singleton.1 h), fun h => absurd rfl h, fun y h => absurd h List.not_mem_nil, fun u v h hr _ => ?_⟩
  rcases h with rfl | h
  · exact absurd (List.mem_singleton.2 rfl) hr
  · exact absurd h List.not_mem_nil
theorem srch_size {t : List Pr} {z x : Nat × Nat} {s r b : List (Nat × Nat)} (h : Srch t z s r x b) : s.length ≤ sumN t := nodup_le h.nodup fun y hy => (hap_in (h.seen y hy).1).2
/-- one is taken from the end of those to be visited -/
theorem srch_pop {t : List Pr} {z x0 x : Nat × Nat} {s r b : List (Nat × Nat)} (h : Srch t z s (r ++ [x]) x0 []) (hb : ∀ y, y ∈ b ↔ Dir t x y) : Srch t z s r x b := by
  refine ⟨h.nodup, h.seen, fun y hy => h.rest y (List.mem_append.2 (.inl hy)), fun _ => h.rest x (by simp), fun y hy => (hb y).1 hy, fun u v hu hr hd => ?_⟩
  by_cases hux : u = x
  · subst hux
    exact .inr ⟨rfl, (hb v).2 hd⟩
  · rcases h.done u v hu (by simp [hr, hux]) hd with hv | ⟨-, hv⟩
    · exact .inl hv
    · exact absurd hv List.not_mem_nil
/-- the start is found again -/
theorem srch_found {t : List Pr} {z x : Nat × Nat} {s r b : List (Nat × Nat)} (h : Srch t z s r x (z :: b)) : OnC t z := by
  have hd := h.pend z (List.mem_cons_self ..)
  rcases h.at_ (List.cons_ne_nil _ _) with rfl | hx
  · exact .single hd
  · exact .tail (h.seen x hx).1 hd
/-- one that was seen before -/
theorem srch_old {t : List Pr} {z x y : Nat × Nat} {s r b : List (Nat × Nat)} (h : Srch t z s r x (y :: b)) (hy : y ∈ s) : Srch t z s r x b := by
  refine ⟨h.nodup, h.seen, h.rest, fun _ => h.at_ (List.cons_ne_nil _ _), fun v hv => h.pend v (List.mem_cons_of_mem _ hv), fun u v hu hr hd => ?_⟩
  rcases h.done u v hu hr hd with hv | ⟨hux, hv⟩
  · exact .inl hv
  · rcases List.mem_cons.1 hv with rfl | hv
    · exact .inl hy
    · exact .inr ⟨hux, hv⟩
/-- a new one -/
theorem srch_new {t : List Pr} {z x y : Nat × Nat} {s r b : List (Nat × Nat)} (h : Srch t z s r x (y :: b)) (hy : y ∉ s) (hz : y ≠ z) : Srch t z (y :: s) (r ++ [y]) x b := by
  have hd0 := h.pend y (List.mem_cons_self ..)
  have hx := h.at_ (List.cons_ne_nil _ _)
  refine ⟨List.nodup_cons.2 ⟨hy, h.nodup⟩, fun v hv => ?_, fun v hv => ?_, fun _ => ?_, fun v hv => h.pend v (List.mem_cons_of_mem _ hv), fun u v hu hr hd => ?_⟩
  · rcases List.mem_cons.1 hv with rfl | hv
    · refine ⟨?_, hz⟩
      rcases hx with rfl | hx
      · exact .single hd0
      · exact .tail (h.seen x hx).1 hd0
    · exact h.seen v hv
  · rcases List.mem_append.1 hv with hv | hv
    · rcases h.rest v hv with hv | hv
      · exact .inl hv
      · exact .inr (List.mem_cons_of_mem _ hv)
    · exact .inr (by rw [List.mem_singleton.1 hv]; exact List.mem_cons_self ..)
  · rcases hx with hx | hx
    · exact .inl hx
    · exact .inr (List.mem_cons_of_mem _ hx)
  · have hr1 : u ∉ r := fun hu2 => hr (List.mem_append.2 (.inl hu2))
    have huy : u ≠ y := fun he => hr (List.mem_append.2 (.inr (by rw [he]; exact List.mem_singleton.2 rfl)))
    have hu2 : u = z ∨ u ∈ s := by
      rcases hu with hu | hu
      · exact .inl hu
      · rcases List.mem_cons.1 hu with hu | hu
        · exact absurd hu huy
        · exact .inr hu
    rcases h.done u v hu2 hr1 hd with hv | ⟨hux, hv⟩
    · exact .inl (List.mem_cons_of_mem _ hv)
    · rcases List.mem_cons.1 hv with rfl | hv
      · exact .inl (List.mem_cons_self ..)
      · exact .inr ⟨hux, hv⟩
/-- none is left -/
theorem srch_end {t : List Pr} {z x : Nat × Nat} {s : List (Nat × Nat)} (h : Srch t z s [] x []) : ¬ OnC t z := by
  intro hc
  obtain ⟨y, hd, hy⟩ := hap_first hc
  have hs : ∀ u v, Dir t u v → u ∈ s → v ∈ s := fun u v hd hu => by
    rcases h.done u v (.inr hu) List.not_mem_nil hd with hv | ⟨-, hv⟩
    · exact hv
    · exact absurd hv List.not_mem_nil
  have hys : y ∈ s := by
    rcases h.done z y (.inl rfl) List.not_mem_nil hd with hv | ⟨-, hv⟩
    · exact hv
    · exact absurd hv List.not_mem_nil
  rcases hy with rfl | hy
  · exact (h.seen _ hys).2 rfl
  · exact (h.seen z (hap_open (S := fun u => u ∈ s) hs hy hys)).2 rfl
end
section
open Go.RowKit
/-- the cells at a slice's address -/
def Row (w : World) (A : Option Addr) (xs : List Value) : Prop := xs = [] ∨ ∃ b o, A = some ⟨b, o, none⟩ ∧ b < w.heap.size ∧ ∀ j u, xs[j]? = some u → w.cell? ⟨b, o + j, none⟩ = some u
theorem Row.ex {w w' : World} {A : Option Addr} {xs : List Value} (h : Row w A xs) (hx : Ex w w') : Row w' A xs := by
  rcases h with h | ⟨b, o, e, hb, h⟩
  · exact .inl h
  · exact .inr ⟨b, o, e, Nat.lt_of_lt_of_le hb hx.below.size, fun j u hj => (hx.below.cell hb).trans (h j u hj)⟩
def asgV (l : List (Int × Int)) : List Value := l.flatMap fun a => [.int .i64 a.1, .int .i64 a.2]
def varV (l : List (ByteArray × Int)) : List Value := l.flatMap fun a => [.string a.1, .int .i64 a.2]
theorem pair_get {α : Type} (f g : α → Value) : ∀ (l : List α) (i : Nat) (x : α), l[i]? = some x → (l.flatMap fun a => [f a, g a])[i * 2]? = some (f x) ∧ (l.flatMap fun a => [f a, g a])[i * 2 + 1]? = some (g x)
  | [], _, _, h => by simp at h
  | y :: l, 0, x, h => by
    simp only [List.getElem?_cons_zero, Option.some.injEq] at h
    subst h
    simp
  | y :: l, i + 1, x, h => by
    have := pair_get f g l i x (by simpa using h)
    rw [show (i + 1) * 2 = i * 2 + 1 + 1 by omega]
    simpa using this
theorem Row.asg {w : World} {A : Option Addr} {l : List (Int × Int)} (h : Row w A (asgV l)) {i : Nat} {x : Int × Int} (hi : l[i]? = some x) :
    ∃ b o, A = some ⟨b, o, none⟩ ∧ b < w.heap.size ∧ w.cell? ⟨b, o + i * 2, none⟩ = some (.int .i64 x.1) ∧ w.cell? ⟨b, o + i * 2 + 1, none⟩ = some (.int .i64 x.2) := by
  obtain ⟨h1, h2⟩ := pair_get (fun a : Int × Int => Value.int .i64 a.1) (fun a => .int .i64 a.2) l i x hi
  rcases h with h | ⟨b, o, e, hb, h⟩
  · unfold asgV at h; rw [h] at h1; simp at h1
  · exact ⟨b, o, e, hb, h _ _ h1, by rw [Nat.add_assoc]; exact h _ _ h2⟩
theorem Row.var {w : World} {A : Option Addr} {l : List (ByteArray × Int)} (h : Row w A (varV l)) {i : Nat} {x : ByteArray × Int} (hi : l[i]? = some x) :
    ∃ b o, A = some ⟨b, o, none⟩ ∧ b < w.heap.size ∧ w.cell? ⟨b, o + i * 2, none⟩ = some (.string x.1) ∧ w.cell? ⟨b, o + i * 2 + 1, none⟩ = some (.int .i64 x.2) := by
  obtain ⟨h1, h2⟩ := pair_get (fun a : ByteArray × Int => Value.string a.1) (fun a => .int .i64 a.2) l i x hi
  rcases h with h | ⟨b, o, e, hb, h⟩
  · unfold varV at h; rw [h] at h1; simp at h1
  · exact ⟨b, o, e, hb, h _ _ h1, by rw [Nat.add_assoc]; exact h _ _ h2⟩
/-- an event at a place -/
def EvC (w : World) (b o : Nat) (e : Ev) : Prop :=
  ∃ A c, w.cell? ⟨b, o, none⟩ = some (.int .i64 e.kind) ∧ w.cell? ⟨b, o + 1, none⟩ = some (.int .i64 e.peer) ∧ w.cell? ⟨b, o + 2, none⟩ = some (.int .i64 e.msg) ∧ w.cell? ⟨b, o + 3, none⟩ = some (.int .i64 e.time) ∧ w.cell? ⟨b, o + 4, none⟩ = some (.slice A e.asg.length c) ∧ (Row w A (asgV e.asg) ∧ e.asg.length ≤ c)
/-- the events at a slice's address -/
def EvsC (w : World) (A : Option Addr) (l : List Ev) : Prop := ∀ i e, l[i]? = some e → ∃ b o, A = some ⟨b, o, none⟩ ∧ b < w.heap.size ∧ EvC w b (o + i * 5) e
/-- a process at a place -/
def PrC (w : World) (b o : Nat) (x : Pr) : Prop :=
  ∃ V vc E ec, w.cell? ⟨b, o, none⟩ = some (.string x.name) ∧ w.cell? ⟨b, o + 1, none⟩ = some (.slice V x.vars.length vc) ∧ w.cell? ⟨b, o + 2, none⟩ = some (.slice E x.evs.length ec) ∧ (Row w V (varV x.vars) ∧ x.vars.length ≤ vc ∧ x.evs.length ≤ ec) ∧ EvsC w E x.evs
/-- the processes at a slice's address -/
def TcC (w : World) (A : Option Addr) (t : List Pr) : Prop := ∀ p x, t[p]? = some x → ∃ b o, A = some ⟨b, o, none⟩ ∧ b < w.heap.size ∧ PrC w b (o + p * 3) x
theorem EvC.ex {w w' : World} {b o : Nat} {e : Ev} (hb : b < w.heap.size) (h : EvC w b o e) (hx : Ex w w') : EvC w' b o e := by
  obtain ⟨A, c, h0, h1, h2, h3, h4, h5⟩ := h
  exact ⟨A, c, (hx.below.cell hb).trans h0, (hx.below.cell hb).trans h1, (hx.below.cell hb).trans h2, (hx.below.cell hb).trans h3, (hx.below.cell hb).trans h4, h5.1.ex hx, h5.2⟩
theorem EvsC.ex {w w' : World} {A : Option Addr} {l : List Ev} (h : EvsC w A l) (hx : Ex w w') : EvsC w' A l := fun i e hi => by
  obtain ⟨b, o, e1, hb, h1⟩ := h i e hi
  exact ⟨b, o, e1, Nat.lt_of_lt_of_le hb hx.below.size, h1.ex hb hx⟩
theorem PrC.ex {w w' : World} {b o : Nat} {x : Pr} (hb : b < w.heap.size) (h : PrC w b o x) (hx : Ex w w') : PrC w' b o x := by
  obtain ⟨V, vc, E, ec, h0, h1, h2, h3, h4⟩ := h
  exact ⟨V, vc, E, ec, (hx.below.cell hb).trans h0, (hx.below.cell hb).trans h1, (hx.below.cell hb).trans h2, ⟨h3.1.ex hx, h3.2⟩, h4.ex hx⟩
theorem TcC.ex {w w' : World} {A : Option Addr} {t : List Pr} (h : TcC w A t) (hx : Ex w w') : TcC w' A t := fun p x hp => by
  obtain ⟨b, o, e1, hb, h1⟩ := h p x hp
  exact ⟨b, o, e1, Nat.lt_of_lt_of_le hb hx.below.size, h1.ex hb hx⟩
/-- bounds that keep numbers from running over -/
structure TSm (t : List Pr) : Prop where
  procs : t.length ≤ 100000
  events : sumN t ≤ 100000
  each : ∀ x, x ∈ t → x.name.size ≤ 100000 ∧ x.vars.length ≤ 100000 ∧ x.evs.length ≤ 100000 ∧ (∀ v, v ∈ x.vars → v.1.size ≤ 100000) ∧ ∀ e, e ∈ x.evs → e.asg.length ≤ 100000
end
end Go.Proofs.YtpmponafjhnegaaGreatDoor
