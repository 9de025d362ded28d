/-
  The text of a trace without fault is read as this trace; a text that is read is that of its trace, plain.
  Conditions: as each theorem says.
-/
import Derived.Test.YtpmponafjhnegaaGreatDoorLd
namespace Go.Proofs.YtpmponafjhnegaaGreatDoor
open Nu
theorem firstN_all {f : Nat → Nat} {n : Nat} (h : firstN f n = 0) : ∀ i, i < n → f i = 0 := by
  intro i
  induction i using Nat.strongRecOn with
  | ind i ih =>
    intro hi
    apply Classical.byContradiction
    intro hn
    rw [firstN_some hi hn (fun j hj => ih j hj (by omega))] at h
    exact hn h
theorem vIdx_of {n : ByteArray} : ∀ {vs : List (ByteArray × Int)} {i : Nat} {v : ByteArray × Int}, vs[i]? = some v → v.1 = n → (∀ j u, j < i → vs[j]? = some u → u.1 ≠ n) → vIdx n vs = some i
  | [], i, v, h, _, _ => by simp at h
  | u :: vs, 0, v, h, hn, _ => by
    cases h
    unfold vIdx
    rw [if_pos hn]
  | u :: vs, i + 1, v, h, hn, hb => by
    unfold vIdx
    rw [if_neg (hb 0 u (by omega) rfl), vIdx_of (by simpa using h) hn fun j w hj hw => hb (j + 1) w (by omega) (by simpa using hw)]
    rfl
theorem pIdx_of {n : ByteArray} : ∀ {vs : List ByteArray} {i : Nat}, vs[i]? = some n → (∀ j u, j < i → vs[j]? = some u → u ≠ n) → pIdx n vs = some i
  | [], i, h, _ => by simp at h
  | u :: vs, 0, h, _ => by
    cases h
    unfold pIdx
    rw [if_pos rfl]
  | u :: vs, i + 1, h, hb => by
    unfold pIdx
    rw [if_neg (hb 0 u (by omega) rfl), pIdx_of (by simpa using h) fun j w hj hw => hb (j + 1) w (by omega) (by simpa using hw)]
    rfl
theorem pIdx_some {n : ByteArray} : ∀ {vs : List ByteArray} {i : Nat}, pIdx n vs = some i → vs[i]? = some n
  | [], i, h => by simp [pIdx] at h
  | v :: vs, i, h => by
    unfold pIdx at h
    split at h
    · rename_i hv; cases h; rw [hv]; rfl
    · cases hr : pIdx n vs with
      | none => rw [hr] at h; cases h
      | some j =>
        rw [hr] at h; cases h
        have := pIdx_some hr
        simpa using this
/-- what a trace without fault gives its text -/
theorem good_head {t : List Pr} (h : ∀ q, q < t.length → headE t q = 0) {p : Nat} {x : Pr} (hx : t[p]? = some x) : PrW x ∧ (∀ j y, j < p → t[j]? = some y → y.name ≠ x.name) ∧ ∀ i v, x.vars[i]? = some v → vIdx v.1 x.vars = some i := by
  have h0 := h p (List.getElem?_eq_some_iff.1 hx).1
  unfold headE at h0
  rw [hx] at h0
  dsimp only at h0
  split at h0
  · cases h0
  rename_i h1
  split at h0
  · cases h0
  split at h0
  · rename_i h2; exact absurd h0 h2
  rename_i h2
  simp only [Bool.or_eq_true, Bool.not_eq_true', List.any_eq_true, decide_eq_true_eq, not_or, Bool.not_eq_false] at h1
  have hv := firstN_all (Classical.not_not.1 h2)
  have hvar : ∀ (i : Nat) (v : ByteArray × Int), x.vars[i]? = some v → nameB v.1 = true ∧ (∀ (j : Nat) (u : ByteArray × Int), j < i → x.vars[j]? = some u → u.1 ≠ v.1) ∧ valB v.2 = true := fun i v hi => by
    have := hv i (List.getElem?_eq_some_iff.1 hi).1
    unfold varE at this
    rw [hi] at this
    dsimp only at this
    split at this
    · cases this
    rename_i g1
    split at this
    · cases this
    rename_i g2
    simp only [Bool.or_eq_true, Bool.not_eq_true', List.any_eq_true, decide_eq_true_eq, not_or, Bool.not_eq_false] at g1 g2
    refine ⟨g1.1, fun j u hj hu he => g1.2 ⟨u, ?_, he⟩, by simpa using g2⟩
    exact List.mem_of_getElem? (i := j) (by rw [List.getElem?_take, if_pos hj]; exact hu)
  refine ⟨⟨h1.1, fun v hv2 => ?_⟩, fun j y hj hy he => h1.2 ⟨y, ?_, he⟩, fun i v hi => vIdx_of hi rfl (hvar i v hi).2.1⟩
  · obtain ⟨i, hi⟩ := List.mem_iff_getElem?.1 hv2
    obtain ⟨g1, -, g3⟩ := hvar i v hi
    unfold valB at g3
    simp only [Bool.and_eq_true, decide_eq_true_eq] at g3
    exact ⟨g1, by omega, by omega⟩
  · exact List.mem_of_getElem? (i := j) (by rw [List.getElem?_take, if_pos hj]; exact hy)
theorem good_ev {t : List Pr} (h : (faultO t).2 = 0) {p i : Nat} {x : Pr} {e : Ev} (hx : t[p]? = some x) (he : x.evs[i]? = some e) : EvW t x.vars e ∧ (e.kind = 1 → e.peer = 0 ∧ e.msg = 0) ∧ (e.kind ≠ 1 → 0 ≤ e.peer ∧ ∃ y, t[e.peer.toNat]? = some y) := by
  obtain ⟨-, hh, hf, -, -⟩ := fault_zero h
  have hi : InT t (p, i + 1) := ⟨by simp, by show i + 1 ≤ evN t p; unfold evN; rw [hx]; exact (List.getElem?_eq_some_iff.1 he).1⟩
  have h0 := hf _ hi
  unfold formE at h0
  simp only [hx, Nat.add_sub_cancel, he] at h0
  unfold evE at h0
  split at h0
  · cases h0
  rename_i h1
  split at h0
  · cases h0
  rename_i h2
  split at h0
  · cases h0
  have ha := firstN_all h0
  obtain ⟨g1, g2, g3⟩ := good_head hh hx
  simp only [Bool.not_eq_true', Bool.not_eq_false] at h1
  unfold frmB at h1
  have hasg : ∀ a ∈ e.asg, nameB (vNm x.vars a.1) = true ∧ vIdx (vNm x.vars a.1) x.vars = some a.1.toNat ∧ 0 ≤ a.1 ∧ -1125899906842624 ≤ a.2 ∧ a.2 ≤ 1125899906842624 := fun a hm => by
    obtain ⟨k, hk⟩ := List.mem_iff_getElem?.1 hm
    have := ha k (List.getElem?_eq_some_iff.1 hk).1
    unfold asgE at this
    rw [hk] at this
    dsimp only at this
    split at this
    · cases this
    rename_i k1
    simp only [not_or, Bool.not_eq_true', Bool.not_eq_false] at k1
    obtain ⟨k2, k3, k4⟩ := k1
    unfold valB at k4
    simp only [Bool.and_eq_true, decide_eq_true_eq] at k4
    obtain ⟨v, hv⟩ : ∃ v, x.vars[a.1.toNat]? = some v := ⟨_, List.getElem?_eq_getElem (by omega)⟩
    have hn : vNm x.vars a.1 = v.1 := by unfold vNm; rw [hv]; rfl
    rw [hn]
    exact ⟨(g1.vars v (List.mem_of_getElem? hv)).1, g3 _ v hv, by omega, by omega, by omega⟩
  by_cases hk : e.kind = 1
  · rw [if_pos hk] at h1
    simp only [Bool.and_eq_true, decide_eq_true_eq] at h1
    exact ⟨⟨.inl hk, fun h => absurd hk h, by omega, by omega, hasg⟩, fun _ => h1, fun h => absurd hk h⟩
  · rw [if_neg hk] at h1
    simp only [Bool.and_eq_true, Bool.not_eq_true', decide_eq_true_eq, decide_eq_false_iff_not] at h1
    obtain ⟨y, hy⟩ : ∃ y, t[e.peer.toNat]? = some y := ⟨_, List.getElem?_eq_getElem (by omega)⟩
    refine ⟨⟨.inr h1.1.1.1, fun _ => ?_, by omega, by omega, hasg⟩, fun h => absurd h hk, fun _ => ⟨by omega, y, hy⟩⟩
    unfold nmOf
    rw [hy]
    exact (good_head hh hy).1.nm
/-- lines one after the other -/
def linesR : Nat → List RP → List (List UInt8) → Except (Int × Nat × Nat) (List RP)
  | _, ps, [] => .ok ps
  | n, ps, l :: r => match lineX n ps l with
    | .error (e, c) => .error (e, n, c)
    | .ok ps' => linesR (n + 1) ps' r
theorem linesR_cons (n : Nat) (ps : List RP) (l : List UInt8) (r : List (List UInt8)) : linesR n ps (l :: r) = match lineX n ps l with | .error (e, c) => .error (e, n, c) | .ok ps' => linesR (n + 1) ps' r := rfl
theorem linesX_R : ∀ (ls : List (List UInt8)) (last : List UInt8) (n : Nat) (ps : List RP), linesX n ps (ls ++ [last]) = match linesR n ps ls with | .error x => .error x | .ok ps' => if last = [] then .ok ps' else .error (4, n + ls.length, last.length + 1)
  | [], last, n, ps => rfl
  | l :: ls, last, n, ps => by
    obtain ⟨m, r, hm⟩ : ∃ m r, ls ++ [last] = m :: r := by cases ls with | nil => exact ⟨_, _, rfl⟩ | cons a b => exact ⟨_, _, rfl⟩
    rw [List.cons_append, hm]
    unfold linesX linesR
    cases lineX n ps l with
    | error x => rfl
    | ok ps' =>
      dsimp only
      rw [← hm, linesX_R ls last (n + 1) ps']
      rw [show n + 1 + ls.length = n + (l :: ls).length by simp; omega]
theorem linesR_app : ∀ (ls ms : List (List UInt8)) (n : Nat) (ps : List RP), linesR n ps (ls ++ ms) = match linesR n ps ls with | .error x => .error x | .ok ps' => linesR (n + ls.length) ps' ms
  | [], ms, n, ps => rfl
  | l :: ls, ms, n, ps => by
    rw [List.cons_append, linesR_cons, linesR_cons]
    cases lineX n ps l with
    | error x => rfl
    | ok ps' =>
      dsimp only
      rw [linesR_app ls ms (n + 1) ps']
      rw [show n + 1 + ls.length = n + (l :: ls).length by simp; omega]
theorem spl_lines {c : UInt8} : ∀ (ls : List (List UInt8)), (∀ l ∈ ls, c ∉ l) → spl c (ls.flatMap fun l => l ++ [c]) = ls ++ [[]]
  | [], _ => rfl
  | l :: ls, h => by
    rw [List.flatMap_cons, List.append_assoc, List.singleton_append, spl_app _ (h l (List.mem_cons_self ..)), spl_lines ls fun x hx => h x (List.mem_cons_of_mem _ hx)]
    rfl
theorem addE_snoc (e : RE) (p : RP) : ∀ ps : List RP, addE (ps ++ [p]) e = ps ++ [{ p with evs := p.evs ++ [e] }]
  | [] => rfl
  | [q] => rfl
  | q :: r :: ps => by
    have := addE_snoc e p (r :: ps)
    show q :: addE (r :: ps ++ [p]) e = _
    rw [this]
    rfl
/-- the lines of a trace -/
def evLn (t : List Pr) (vars : List (ByteArray × Int)) (e : Ev) : List UInt8 := 32 :: 32 :: wEv t vars e
def prLn (t : List Pr) (x : Pr) : List (List UInt8) := wPr x :: x.evs.map (evLn t x.vars)
def trLn (t : List Pr) (l : List Pr) : List (List UInt8) := l.flatMap (prLn t)
theorem wTr_lines (t : List Pr) : wTr t = (trLn t t).flatMap fun l => l ++ [10] := by
  unfold wTr trLn
  rw [List.flatMap_assoc]
  congr 1
  funext x
  unfold prLn wEvs
  rw [List.flatMap_cons, List.flatMap_map]
  unfold evLn
  simp
/-- what is read of an event at a line -/
def reW (t : List Pr) (n : Nat) (e : Ev) : RE := reOf n (esOf t e 3)
def resW (t : List Pr) : Nat → List Ev → List RE
  | _, [] => []
  | n, e :: l => reW t n e :: resW t (n + 1) l
def rpW (t : List Pr) (n : Nat) (x : Pr) : RP := ⟨n, x.name, x.vars, resW t (n + 1) x.evs⟩
def rpsW (t : List Pr) : Nat → List Pr → List RP
  | _, [] => []
  | n, x :: l => rpW t n x :: rpsW t (n + (1 + x.evs.length)) l
theorem lineX_ev (n : Nat) (ps : List RP) (p : RP) (t : List Pr) {e : Ev} (h : EvW t p.vars e) : lineX n (ps ++ [p]) (evLn t p.vars e) = .ok (ps ++ [{ p with evs := p.evs ++ [reW t n e] }]) := by
  have hb : body (evLn t p.vars e) = some (wEv t p.vars e) := rfl
  unfold lineX
  rw [hb]
  dsimp only
  rw [List.getLast?_concat]
  dsimp only
  rw [evL_w h]
  dsimp only
  rw [addE_snoc]
  rfl
theorem linesR_evs (t : List Pr) (vars : List (ByteArray × Int)) : ∀ (l : List Ev) (n : Nat) (ps : List RP) (p : RP), p.vars = vars → (∀ e ∈ l, EvW t vars e) → linesR n (ps ++ [p]) (l.map (evLn t vars)) = .ok (ps ++ [{ p with evs := p.evs ++ resW t n l }])
  | [], n, ps, p, _, _ => by simp [linesR, resW]
  | e :: l, n, ps, p, hp, h => by
    subst hp
    rw [List.map_cons]
    unfold linesR
    rw [lineX_ev n ps p t (h e (List.mem_cons_self ..))]
    dsimp only
    rw [linesR_evs t p.vars l (n + 1) ps { p with evs := p.evs ++ [reW t n e] } rfl fun f hf => h f (List.mem_cons_of_mem _ hf)]
    simp [resW]
theorem body_pr (x : Pr) : body (wPr x) = none := rfl
theorem linesR_tr (t : List Pr) : ∀ (l : List Pr) (n : Nat) (ps : List RP), (∀ x ∈ l, PrW x ∧ ∀ e ∈ x.evs, EvW t x.vars e) → linesR n ps (trLn t l) = .ok (ps ++ rpsW t n l)
  | [], n, ps, _ => by simp [trLn, linesR, rpsW]
  | x :: l, n, ps, h => by
    obtain ⟨h1, h2⟩ := h x (List.mem_cons_self ..)
    have hx : lineX n ps (wPr x) = .ok (ps ++ [⟨n, x.name, x.vars, []⟩]) := by
      unfold lineX
      rw [body_pr]
      dsimp only
      rw [pcL_w h1]
    have ht : trLn t (x :: l) = prLn t x ++ trLn t l := by unfold trLn; rw [List.flatMap_cons]
    have hl : (prLn t x).length = 1 + x.evs.length := by unfold prLn; simp; omega
    have hp : linesR n ps (prLn t x) = .ok (ps ++ [rpW t n x]) := by
      unfold prLn linesR
      rw [hx]
      dsimp only
      rw [linesR_evs t x.vars x.evs (n + 1) ps ⟨n, x.name, x.vars, []⟩ rfl h2]
      rfl
    rw [ht, linesR_app, hp]
    dsimp only
    rw [linesR_tr t l _ _ (fun y hy => h y (List.mem_cons_of_mem _ hy)), hl]
    simp [rpsW]
theorem rps_names (t : List Pr) : ∀ (l : List Pr) (n : Nat), (rpsW t n l).map (·.name) = l.map (·.name)
  | [], _ => rfl
  | x :: l, n => by
    unfold rpsW
    rw [List.map_cons, rps_names t l, List.map_cons]
    rfl
theorem name_pos {n : ByteArray} (h : nameB n = true) : n.size ≠ 0 := by
  unfold nameB at h
  simp only [Bool.and_eq_true, decide_eq_true_eq] at h
  omega
theorem resE_w {t : List Pr} (h : (faultO t).2 = 0) {p i : Nat} {x : Pr} {e : Ev} (hx : t[p]? = some x) (he : x.evs[i]? = some e) (n : Nat) : resE (t.map (·.name)) (reW t n e) = .ok e := by
  obtain ⟨-, hh, -⟩ := fault_zero h
  obtain ⟨h1, h2, h3⟩ := good_ev h hx he
  obtain ⟨kind, peer, msg, time, asg⟩ := e
  unfold reW resE
  by_cases hk : kind = 1
  · obtain ⟨g1, g2⟩ := h2 hk
    dsimp only at g1 g2
    subst hk g1 g2
    rfl
  · obtain ⟨g1, y, hy⟩ := h3 hk
    dsimp only at g1 hy
    have hn := h1.nm hk
    have hes : esOf t ⟨kind, peer, msg, time, asg⟩ 3 = ⟨4, kind, bs (nmOf t peer), 3 + (kw kind).length + 1, msg, time, asg⟩ := by unfold esOf; rw [if_neg hk]
    rw [hes]
    have hnm : bs (nmOf t peer) = y.name := by unfold nmOf; rw [hy]; rfl
    dsimp only at hn
    unfold reOf
    dsimp only
    rw [if_neg (name_pos hn), hnm]
    have : pIdx y.name (t.map (·.name)) = some peer.toNat := by
      refine pIdx_of (by rw [List.getElem?_map, hy]; rfl) fun j u hj hu => ?_
      rw [List.getElem?_map] at hu
      cases hz : t[j]? with
      | none => rw [hz] at hu; cases hu
      | some z =>
        rw [hz] at hu
        cases hu
        exact (good_head hh hy).2.1 j z hj hz
    rw [this]
    dsimp only
    unfold evOf
    dsimp only
    rw [Int.toNat_of_nonneg g1]
theorem resEs_w {t : List Pr} (h : (faultO t).2 = 0) {p : Nat} {x : Pr} (hx : t[p]? = some x) : ∀ (l : List Ev) (k n : Nat), (∀ i e, l[i]? = some e → x.evs[k + i]? = some e) → resEs (t.map (·.name)) (resW t n l) = .ok l
  | [], _, _, _ => rfl
  | e :: l, k, n, hl => by
    unfold resW resEs
    rw [resE_w h hx (hl 0 e rfl)]
    dsimp only
    rw [resEs_w h hx l (k + 1) (n + 1) fun i f hf => by rw [Nat.add_assoc, Nat.add_comm 1]; exact hl (i + 1) f (by simpa using hf)]
theorem resPs_w {t : List Pr} (h : (faultO t).2 = 0) : ∀ (l : List Pr) (k n : Nat), (∀ i x, l[i]? = some x → t[k + i]? = some x) → resPs (t.map (·.name)) (rpsW t n l) = .ok l
  | [], _, _, _ => rfl
  | x :: l, k, n, hl => by
    unfold rpsW resPs rpW
    dsimp only
    rw [resEs_w h (hl 0 x rfl) x.evs 0 (n + 1) fun i e he => by rw [Nat.zero_add]; exact he]
    dsimp only
    rw [resPs_w h l (k + 1) _ fun i f hf => by rw [Nat.add_assoc, Nat.add_comm 1]; exact hl (i + 1) f (by simpa using hf)]
theorem good_all {t : List Pr} (h : (faultO t).2 = 0) : ∀ x ∈ t, PrW x ∧ ∀ e ∈ x.evs, EvW t x.vars e := fun x hx => by
  obtain ⟨p, hp⟩ := List.mem_iff_getElem?.1 hx
  refine ⟨(good_head (fault_zero h).2.1 hp).1, fun e he => ?_⟩
  obtain ⟨i, hi⟩ := List.mem_iff_getElem?.1 he
  exact (good_ev h hp hi).1
theorem evLn_no {t : List Pr} {vars : List (ByteArray × Int)} {e : Ev} (h : EvW t vars e) : (10 : UInt8) ∉ evLn t vars e := by
  have : (10 : UInt8) ∉ wEv t vars e := by
    rw [wEv_words]
    exact join_no (by decide) (evWs_no h (.inr rfl))
  unfold evLn
  intro hm
  rcases List.mem_cons.1 hm with hm | hm
  · exact absurd hm (by decide)
  · rcases List.mem_cons.1 hm with hm | hm
    · exact absurd hm (by decide)
    · exact this hm
where
  join_no {c d : UInt8} (hcd : d ≠ c) : ∀ {ws : List (List UInt8)}, (∀ w ∈ ws, d ∉ w) → d ∉ joinC c ws
  | [], _ => List.not_mem_nil
  | [w], h => h w (List.mem_cons_self ..)
  | w :: v :: ws, h => by
    rw [joinC_cons _ _ (by simp)]
    intro hm
    rcases List.mem_append.1 hm with hm | hm
    · exact h w (List.mem_cons_self ..) hm
    · rcases List.mem_cons.1 hm with hm | hm
      · exact hcd hm
      · exact join_no hcd (fun x hx => h x (List.mem_cons_of_mem _ hx)) hm
theorem trLn_no {t : List Pr} (l : List Pr) (h : ∀ x ∈ l, PrW x ∧ ∀ e ∈ x.evs, EvW t x.vars e) : ∀ w ∈ trLn t l, (10 : UInt8) ∉ w := by
  intro w hw
  unfold trLn at hw
  obtain ⟨x, hx, hw⟩ := List.mem_flatMap.1 hw
  obtain ⟨h1, h2⟩ := h x hx
  unfold prLn at hw
  rcases List.mem_cons.1 hw with rfl | hw
  · rw [wPr_words]
    exact evLn_no.join_no (by decide) (prWs_no h1 (.inr rfl))
  · obtain ⟨e, he, rfl⟩ := List.mem_map.1 hw
    exact evLn_no (h2 e he)
theorem spl_tr {t : List Pr} (h : (faultO t).2 = 0) : spl 10 (wTr t) = trLn t t ++ [[]] := by
  rw [wTr_lines]
  exact spl_lines _ (trLn_no t (good_all h))
/-- the text of a trace without fault is read as the trace -/
theorem parse_w {t : List Pr} (h : (faultO t).2 = 0) (hl : (wTr t).length ≤ 16384) : parseT (wTr t) = .ok t := by
  have hr := linesR_tr t t 1 [] (good_all h)
  rw [List.nil_append] at hr
  unfold parseT
  rw [if_neg (by omega), spl_tr h, linesX_R, hr]
  dsimp only
  rw [if_pos rfl]
  dsimp only
  rw [rps_names, resPs_w h t 0 1 fun i x hx => by rw [Nat.zero_add]; exact hx]
  dsimp only
  rw [if_pos h]
end Go.Proofs.YtpmponafjhnegaaGreatDoor
