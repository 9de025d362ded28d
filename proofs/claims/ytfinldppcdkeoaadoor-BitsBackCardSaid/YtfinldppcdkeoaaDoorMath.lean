/-
  Plain arithmetic of sets of numbers as lists of 64-bit words: bits, members, counts, orders. No program in sight.
  Conditions: words are below 2^64 where it is said (Wd).
-/
import Derived.Lib.TrailingZeros
namespace Go.Proofs.YtfinldppcdkeoaaDoor.Bm
def bitAt (ws : List Nat) (i : Nat) : Bool := (ws.getD (i / 64) 0).testBit (i % 64)
def cleanB (ws : List Nat) (n : Nat) : Bool := (List.range (64 * ws.length)).all fun i => decide (i < n) || !bitAt ws i
theorem cleanB_iff (ws : List Nat) (n : Nat) : cleanB ws n = true ↔ ∀ i, n ≤ i → i < 64 * ws.length → bitAt ws i = false := by
  unfold cleanB
  simp only [List.all_eq_true, List.mem_range, Bool.or_eq_true, decide_eq_true_eq, Bool.not_eq_true']
  constructor
  · intro h i h1 h2
    rcases h i h2 with h3 | h3
    · omega
    · exact h3
  · intro h i h2
    by_cases h1 : i < n
    · exact .inl h1
    · exact .inr (h i (by omega) h2)
/-- all words are below 2^64 -/
def Wd (ws : List Nat) : Prop := ∀ x ∈ ws, x < 2 ^ 64
theorem Wd.getD {ws : List Nat} (h : Wd ws) (i : Nat) : ws.getD i 0 < 2 ^ 64 := by
  rw [List.getD_eq_getElem?_getD]
  cases hx : ws[i]? with
  | none => simp
  | some x => exact h x (List.mem_of_getElem? hx)
theorem bitAt_out {ws : List Nat} {i : Nat} (h : 64 * ws.length ≤ i) : bitAt ws i = false := by
  unfold bitAt
  rw [List.getD_eq_getElem?_getD, List.getElem?_eq_none (by omega)]
  simp
theorem testBit_high {x t : Nat} (h : x < 2 ^ 64) (ht : 64 ≤ t) : x.testBit t = false :=
  Nat.testBit_lt_two_pow (Nat.lt_of_lt_of_le h (Nat.pow_le_pow_right (by omega) ht))
theorem bit_word {ws : List Nat} {k t : Nat} (ht : t < 64) : bitAt ws (64 * k + t) = (ws.getD k 0).testBit t := by
  unfold bitAt
  rw [show (64 * k + t) / 64 = k by omega, show (64 * k + t) % 64 = t by omega]
theorem div_zero_iff (x r : Nat) (_hx : x < 2 ^ 64) : x / 2 ^ r = 0 ↔ ∀ t, r ≤ t → x.testBit t = false := by
  constructor
  · intro h t ht
    have h1 : x < 2 ^ r := by
      rcases Nat.div_eq_zero_iff.1 h with h | h
      · exact absurd h (Nat.pos_iff_ne_zero.1 (Nat.two_pow_pos r))
      · exact h
    exact Nat.testBit_lt_two_pow (Nat.lt_of_lt_of_le h1 (Nat.pow_le_pow_right (by omega) ht))
  · intro h
    apply Nat.eq_of_testBit_eq
    intro i
    rw [Nat.testBit_div_two_pow, Nat.zero_testBit]
    exact h _ (by omega)
theorem last_clean {ws : List Nat} {n : Nat} (hw : Wd ws) (hl : ws.length = (n + 63) / 64) :
    (decide (n % 64 = 0) || decide (ws.getD (ws.length - 1) 0 / 2 ^ (n % 64) = 0)) = cleanB ws n := by
  rw [Bool.eq_iff_iff, cleanB_iff]
  simp only [Bool.or_eq_true, decide_eq_true_eq]
  by_cases h0 : n % 64 = 0
  · simp only [h0, true_or, true_iff]
    intro i h1 h2
    omega
  · simp only [h0, false_or]
    rw [div_zero_iff _ _ (hw.getD _)]
    constructor
    · intro h i h1 h2
      have e : i / 64 = ws.length - 1 := by omega
      unfold bitAt
      rw [e]
      exact h _ (by omega)
    · intro h t ht
      by_cases h64 : t < 64
      · have := h (64 * (ws.length - 1) + t) (by omega) (by omega)
        rwa [bit_word h64] at this
      · exact testBit_high (hw.getD _) (by omega)
def validB (n : Int) (ws : List Nat) : Bool := decide (0 ≤ n) && (decide (n ≤ 512) && (decide ((ws.length : Int) = (n + 63) / 64) && cleanB ws n.toNat))
structure Valid (n : Nat) (ws : List Nat) : Prop where
  le : n ≤ 512
  len : ws.length = (n + 63) / 64
  clean : ∀ i, n ≤ i → bitAt ws i = false
theorem validB_iff (n : Int) (ws : List Nat) : validB n ws = true ↔ ∃ m : Nat, n = m ∧ Valid m ws := by
  unfold validB
  simp only [Bool.and_eq_true, decide_eq_true_eq, cleanB_iff]
  constructor
  · rintro ⟨h0, h1, h2, h3⟩
    refine ⟨n.toNat, by omega, by omega, by omega, fun i hi => ?_⟩
    by_cases h : i < 64 * ws.length
    · exact h3 i hi h
    · exact bitAt_out (by omega)
  · rintro ⟨m, rfl, h1, h2, h3⟩
    exact ⟨by omega, by omega, by omega, fun i hi _ => h3 i (by simpa using hi)⟩
/-- words with equal bits are equal -/
theorem words_ext {ws us : List Nat} (hw : Wd ws) (hu : Wd us) (hl : ws.length = us.length) (h : ∀ i, i < 64 * ws.length → bitAt ws i = bitAt us i) : ws = us := by
  apply List.ext_getElem hl
  intro k h1 h2
  have e1 : ws.getD k 0 = ws[k] := by rw [List.getD_eq_getElem?_getD, List.getElem?_eq_getElem h1]; rfl
  have e2 : us.getD k 0 = us[k] := by rw [List.getD_eq_getElem?_getD, List.getElem?_eq_getElem h2]; rfl
  rw [← e1, ← e2]
  apply Nat.eq_of_testBit_eq
  intro t
  by_cases ht : t < 64
  · rw [← bit_word ht, ← bit_word ht]; exact h _ (by omega)
  · rw [testBit_high (hw.getD k) (by omega), testBit_high (hu.getD k) (by omega)]
theorem Valid.ext {n : Nat} {ws us : List Nat} (h : Valid n ws) (k : Valid n us) (hw : Wd ws) (hu : Wd us) (hb : ∀ i, i < n → bitAt ws i = bitAt us i) : ws = us :=
  words_ext hw hu (by rw [h.len, k.len]) fun i _ => by
    by_cases hi : i < n
    · exact hb i hi
    · rw [h.clean i (by omega), k.clean i (by omega)]
/-- one bit set -/
def setBit (ws : List Nat) (i : Nat) : List Nat := ws.set (i / 64) (ws.getD (i / 64) 0 ||| 2 ^ (i % 64))
def clrBit (ws : List Nat) (i : Nat) : List Nat := ws.set (i / 64) (ws.getD (i / 64) 0 &&& (2 ^ 64 - 1 - 2 ^ (i % 64)))
def zeros (n : Nat) : List Nat := List.replicate ((n + 63) / 64) 0
def ofL (n : Nat) (l : List Nat) : List Nat := l.foldl setBit (zeros n)
theorem length_setBit (ws : List Nat) (i : Nat) : (setBit ws i).length = ws.length := by simp [setBit]
theorem getD_set (ws : List Nat) (k j x : Nat) (hk : k < ws.length) : (ws.set k x).getD j 0 = if j = k then x else ws.getD j 0 := by
  rw [List.getD_eq_getElem?_getD, List.getElem?_set]
  by_cases h : k = j
  · subst h; simp [hk]
  · rw [if_neg h, if_neg (fun e => h e.symm), List.getD_eq_getElem?_getD]
theorem bitAt_set (ws : List Nat) (k x i : Nat) (hk : k < ws.length) : bitAt (ws.set k x) i = if i / 64 = k then x.testBit (i % 64) else bitAt ws i := by
  unfold bitAt
  rw [getD_set _ _ _ _ hk]
  by_cases h : i / 64 = k
  · rw [if_pos h, if_pos h]
  · rw [if_neg h, if_neg h]
theorem pow_bit (t r : Nat) : (2 ^ r : Nat).testBit t = decide (r = t) := Nat.testBit_two_pow
theorem bitAt_setBit (ws : List Nat) (i j : Nat) (hi : i < 64 * ws.length) : bitAt (setBit ws i) j = (bitAt ws j || decide (j = i)) := by
  unfold setBit
  rw [bitAt_set _ _ _ _ (by omega)]
  by_cases h : j / 64 = i / 64
  · rw [if_pos h, Nat.testBit_or, pow_bit]
    unfold bitAt
    rw [h]
    congr 1
    rw [decide_eq_decide]
    omega
  · rw [if_neg h]
    have : j ≠ i := fun e => h (by rw [e])
    simp [this]
theorem Wd.set {ws : List Nat} (h : Wd ws) (k x : Nat) (hx : x < 2 ^ 64) : Wd (ws.set k x) := fun y hy => by
  rcases List.mem_or_eq_of_mem_set hy with h1 | h1
  · exact h y h1
  · rw [h1]; exact hx
theorem Wd.setBit {ws : List Nat} (h : Wd ws) (i : Nat) : Wd (setBit ws i) :=
  h.set _ _ (Nat.or_lt_two_pow (h.getD _) (Nat.pow_lt_pow_right (by omega) (by omega)))
theorem Wd.zeros (n : Nat) : Wd (Bm.zeros n) := fun x hx => by
  have h1 : x = 0 := by rw [Bm.zeros, List.mem_replicate] at hx; exact hx.2
  rw [h1]; decide
theorem bitAt_zeros (n i : Nat) : bitAt (zeros n) i = false := by
  unfold bitAt Bm.zeros
  rw [List.getD_eq_getElem?_getD, List.getElem?_replicate]
  split <;> simp
theorem fold_len (l : List Nat) : ∀ ws : List Nat, (l.foldl setBit ws).length = ws.length := by
  induction l with
  | nil => intro ws; rfl
  | cons x l ih => intro ws; rw [List.foldl_cons, ih, length_setBit]
theorem fold_wd (l : List Nat) : ∀ ws : List Nat, Wd ws → Wd (l.foldl setBit ws) := by
  induction l with
  | nil => intro ws h; exact h
  | cons x l ih => intro ws h; exact ih _ (h.setBit x)
theorem fold_bit (l : List Nat) : ∀ (ws : List Nat) (j : Nat), (∀ x ∈ l, x < 64 * ws.length) → bitAt (l.foldl setBit ws) j = (bitAt ws j || decide (j ∈ l)) := by
  induction l with
  | nil => intro ws j _; simp
  | cons x l ih =>
    intro ws j h
    rw [List.foldl_cons, ih _ _ (fun y hy => by rw [length_setBit]; exact h y (List.mem_cons_of_mem _ hy)), bitAt_setBit _ _ _ (h x List.mem_cons_self), Bool.or_assoc]
    congr 1
    rw [Bool.eq_iff_iff]
    simp
theorem length_zeros (n : Nat) : (zeros n).length = (n + 63) / 64 := by simp [zeros]
theorem length_ofL (n : Nat) (l : List Nat) : (ofL n l).length = (n + 63) / 64 := by rw [ofL, fold_len, length_zeros]
theorem wd_ofL (n : Nat) (l : List Nat) : Wd (ofL n l) := fold_wd l _ (Wd.zeros n)
theorem bit_ofL {n : Nat} {l : List Nat} (h : ∀ x ∈ l, x < n) (j : Nat) : bitAt (ofL n l) j = decide (j ∈ l) := by
  rw [ofL, fold_bit _ _ _ (fun x hx => by rw [length_zeros]; have := h x hx; omega), bitAt_zeros, Bool.false_or]
theorem valid_ofL {n : Nat} {l : List Nat} (hn : n ≤ 512) (h : ∀ x ∈ l, x < n) : Valid n (ofL n l) :=
  ⟨hn, length_ofL n l, fun i hi => by rw [bit_ofL h]; simp; intro hm; have := h i hm; omega⟩
/-- members -/
def mems (n : Nat) (ws : List Nat) : List Nat := (List.range n).filter (bitAt ws)
theorem mem_mems {n : Nat} {ws : List Nat} {i : Nat} : i ∈ mems n ws ↔ i < n ∧ bitAt ws i = true := by simp [mems]
theorem mems_lt {n : Nat} {ws : List Nat} : ∀ x ∈ mems n ws, x < n := fun _ hx => (mem_mems.1 hx).1
theorem ofL_mems {n : Nat} {ws : List Nat} (h : Valid n ws) (hw : Wd ws) : ofL n (mems n ws) = ws :=
  (valid_ofL h.le mems_lt).ext h (wd_ofL _ _) hw fun i hi => by
    rw [bit_ofL mems_lt, Bool.eq_iff_iff, decide_eq_true_eq, mem_mems]
    simp [hi]
/-- pointwise -/
theorem getD_zipWith {f : Nat → Nat → Nat} {ws us : List Nat} (k : Nat) (hl : ws.length = us.length) (h0 : f 0 0 = 0) : (List.zipWith f ws us).getD k 0 = f (ws.getD k 0) (us.getD k 0) := by
  simp only [List.getD_eq_getElem?_getD, List.getElem?_zipWith]
  by_cases h : k < ws.length
  · rw [List.getElem?_eq_getElem h, List.getElem?_eq_getElem (hl ▸ h)]; rfl
  · rw [List.getElem?_eq_none (by omega), List.getElem?_eq_none (by omega)]; exact h0.symm
theorem bit_zip {f : Nat → Nat → Nat} {g : Bool → Bool → Bool} (hf : ∀ x y t, t < 64 → (f x y).testBit t = g (x.testBit t) (y.testBit t)) (h0 : f 0 0 = 0) {ws us : List Nat} (hl : ws.length = us.length) (i : Nat) :
    bitAt (List.zipWith f ws us) i = g (bitAt ws i) (bitAt us i) := by
  unfold bitAt
  rw [getD_zipWith _ hl h0, hf _ _ _ (by omega)]
def andNot (x y : Nat) : Nat := x &&& (2 ^ 64 - 1 - y % 2 ^ 64)
theorem testBit_andNot (x y t : Nat) (ht : t < 64) : (andNot x y).testBit t = (x.testBit t && !y.testBit t) := by
  unfold andNot
  rw [Nat.testBit_and, show 2 ^ 64 - 1 - y % 2 ^ 64 = 2 ^ 64 - (y % 2 ^ 64 + 1) by omega, Nat.testBit_two_pow_sub_succ (Nat.mod_lt _ (by decide))]
  rw [Nat.testBit_mod_two_pow]
  simp [ht]
/-- how many of the first n bits are set -/
def cnt : Nat → Nat → Nat
  | 0, _ => 0
  | n + 1, x => x % 2 + cnt n (x / 2)
theorem cnt_add (n m x : Nat) : cnt (n + m) x = cnt n (x % 2 ^ n) + cnt m (x / 2 ^ n) := by
  induction n generalizing x with
  | zero => simp [cnt]
  | succ n ih =>
    rw [show n + 1 + m = (n + m) + 1 by omega, cnt, cnt, ih]
    have e1 : x / 2 % 2 ^ n = x % 2 ^ (n + 1) / 2 := by
      rw [Nat.pow_succ, Nat.mul_comm, Nat.mod_mul_right_div_self]
    have e2 : x % 2 ^ (n + 1) % 2 = x % 2 := by
      rw [Nat.pow_succ, Nat.mod_mul_left_mod]
    have e3 : x / 2 / 2 ^ n = x / 2 ^ (n + 1) := by rw [Nat.div_div_eq_div_mul, Nat.pow_succ, Nat.mul_comm]
    rw [e1, e2, e3]; omega
theorem filter_range_succ (n : Nat) (p : Nat → Bool) : ((List.range (n + 1)).filter p).length = (if p 0 then 1 else 0) + ((List.range n).filter fun i => p (i + 1)).length := by
  rw [List.range_succ_eq_map, List.filter_cons, List.filter_map]
  split <;> simp [Function.comp_def] <;> omega
theorem cnt_filter (n x : Nat) : cnt n x = ((List.range n).filter x.testBit).length := by
  induction n generalizing x with
  | zero => rfl
  | succ n ih =>
    rw [filter_range_succ, cnt, ih]
    congr 1
    · rw [Nat.testBit_zero]; split <;> simp_all
    · congr 2; funext i; rw [Nat.testBit_succ]
def mk (k : Nat) : Nat → Nat
  | 0 => 0
  | n + 1 => k + 256 * mk k n
theorem split_bit (b X j : Nat) (hb : b < 256) : (b + 256 * X).testBit j = if j < 8 then b.testBit j else X.testBit (j - 8) := by
  rw [Nat.add_comm]; exact Nat.testBit_two_pow_mul_add X (i := 8) hb j
theorem and_split (a b X Y : Nat) (ha : a < 256) (hb : b < 256) : (a + 256 * X) &&& (b + 256 * Y) = (a &&& b) + 256 * (X &&& Y) := by
  apply Nat.eq_of_testBit_eq
  intro j
  rw [Nat.testBit_and, split_bit _ _ _ ha, split_bit _ _ _ hb, split_bit _ _ _ (Nat.lt_of_le_of_lt Nat.and_le_left ha)]
  split <;> rw [Nat.testBit_and]
theorem sh1_split (b X M : Nat) (hb : b < 256) : (b + 256 * X) / 2 &&& (0x55 + 256 * M) = (b / 2 &&& 0x55) + 256 * (X / 2 &&& M) := by
  have e : (b + 256 * X) / 2 = (b / 2 + 128 * (X % 2)) + 256 * (X / 2) := by omega
  rw [e, and_split _ _ _ _ (by omega) (by omega)]
  congr 1
  have h2 : X % 2 = 0 ∨ X % 2 = 1 := by omega
  rcases h2 with h2 | h2 <;> rw [h2]
  · rfl
  · have key : ∀ c, c < 128 → (c + 128 * 1) &&& 0x55 = c &&& 0x55 := by decide +kernel
    exact key _ (by omega)
theorem sh2_split (b X M : Nat) (hb : b < 256) : (b + 256 * X) / 4 &&& (0x33 + 256 * M) = (b / 4 &&& 0x33) + 256 * (X / 4 &&& M) := by
  have e : (b + 256 * X) / 4 = (b / 4 + 64 * (X % 4)) + 256 * (X / 4) := by omega
  rw [e, and_split _ _ _ _ (by omega) (by omega)]
  congr 1
  have key : ∀ c, c < 64 → ∀ d, d < 4 → (c + 64 * d) &&& 0x33 = c &&& 0x33 := by decide +kernel
  exact key _ (by omega) _ (by omega)
def s1 (b : Nat) : Nat := (b / 2 &&& 0x55) + (b &&& 0x55)
def s2 (b : Nat) : Nat := (b / 4 &&& 0x33) + (b &&& 0x33)
def s3 (b : Nat) : Nat := (b / 16 + b) &&& 15
theorem byte_facts : ∀ b, b < 256 → s1 b < 256 ∧ s2 (s1 b) ≤ 0x44 ∧ s2 (s1 b) % 16 ≤ 4 ∧ s3 (s2 (s1 b)) = cnt 8 b := by decide +kernel
/-- the digits of x, each mapped -/
def dig (f : Nat → Nat) : Nat → Nat → Nat
  | 0, _ => 0
  | n + 1, x => f (x % 256) + 256 * dig f n (x / 256)
theorem step1 (n x : Nat) : (x / 2 &&& mk 0x55 n) + (x &&& mk 0x55 n) = dig s1 n x := by
  induction n generalizing x with
  | zero => simp [mk, dig]
  | succ n ih =>
    obtain ⟨b, X, hb, rfl⟩ : ∃ b X, b < 256 ∧ x = b + 256 * X := ⟨x % 256, x / 256, by omega, by omega⟩
    rw [mk, sh1_split _ _ _ hb, and_split _ _ _ _ hb (by omega), dig, show (b + 256 * X) % 256 = b by omega, show (b + 256 * X) / 256 = X by omega, ← ih]
    unfold s1; omega
theorem dig_mod (f : Nat → Nat) (n x : Nat) (h : ∀ b, b < 256 → f b < 256) : dig f (n + 1) x % 256 = f (x % 256) := by
  rw [dig]; have := h (x % 256) (by omega); omega
theorem step2 (n x : Nat) : (dig s1 n x / 4 &&& mk 0x33 n) + (dig s1 n x &&& mk 0x33 n) = dig (fun b => s2 (s1 b)) n x := by
  induction n generalizing x with
  | zero => simp [mk, dig]
  | succ n ih =>
    have hb := (byte_facts (x % 256) (by omega)).1
    rw [mk, dig, sh2_split _ _ _ hb, and_split _ _ _ _ hb (by omega), dig, ← ih]
    unfold s2; omega
theorem dig_low (n x : Nat) : dig (fun b => s2 (s1 b)) n x % 16 ≤ 4 := by
  cases n with
  | zero => simp [dig]
  | succ n =>
    rw [dig]
    have h := (byte_facts (x % 256) (by omega)).2.2.1
    omega
theorem step3 (n x : Nat) : (dig (fun b => s2 (s1 b)) n x / 16 + dig (fun b => s2 (s1 b)) n x) &&& mk 15 n = dig (fun b => cnt 8 b) n x := by
  induction n generalizing x with
  | zero => simp [mk, dig]
  | succ n ih =>
    obtain ⟨-, h1, h2, h3⟩ := byte_facts (x % 256) (by omega)
    have hl := dig_low n (x / 256)
    rw [mk, dig, dig]
    generalize hc : s2 (s1 (x % 256)) = c at *
    rw [← ih]
    generalize dig (fun b => s2 (s1 b)) n (x / 256) = Y at *
    have e : (c + 256 * Y) / 16 + (c + 256 * Y) = (c / 16 + c + 16 * (Y % 16)) + 256 * (Y / 16 + Y) := by omega
    rw [e, and_split _ _ _ _ (by omega) (by omega), ← h3]
    congr 1
    unfold s3
    have key : ∀ c, c ≤ 0x44 → ∀ d, d ≤ 4 → (c / 16 + c + 16 * d) &&& 15 = (c / 16 + c) &&& 15 := by decide +kernel
    exact key _ h1 _ hl
theorem mk5 : mk 0x55 8 = 6148914691236517205 := by decide
theorem mk3 : mk 0x33 8 = 3689348814741910323 := by decide
theorem mk15 : mk 15 8 = 1085102592571150095 := by decide
theorem cnt8_le (b : Nat) (h : b < 256) : cnt 8 b ≤ 8 := by
  have : ∀ b, b < 256 → cnt 8 b ≤ 8 := by decide +kernel
  exact this b h
def fold3 (y : Nat) : Nat :=
  let a := y + y / 256
  let b := a + a / 65536
  (b + b / 4294967296) % 128
theorem sum_dig (p0 p1 p2 p3 p4 p5 p6 p7 : Nat) (h0 : p0 ≤ 8) (h1 : p1 ≤ 8) (h2 : p2 ≤ 8) (h3 : p3 ≤ 8) (h4 : p4 ≤ 8) (h5 : p5 ≤ 8) (h6 : p6 ≤ 8) (h7 : p7 ≤ 8) :
    fold3 (p0 + 256 * (p1 + 256 * (p2 + 256 * (p3 + 256 * (p4 + 256 * (p5 + 256 * (p6 + 256 * p7))))))) = p0 + p1 + p2 + p3 + p4 + p5 + p6 + p7 := by
  unfold fold3
  simp only []
  have a1 : p0 + 256 * (p1 + 256 * (p2 + 256 * (p3 + 256 * (p4 + 256 * (p5 + 256 * (p6 + 256 * p7)))))) + (p0 + 256 * (p1 + 256 * (p2 + 256 * (p3 + 256 * (p4 + 256 * (p5 + 256 * (p6 + 256 * p7))))))) / 256
     = (p0 + p1) + 256 * ((p1 + p2) + 256 * ((p2 + p3) + 256 * ((p3 + p4) + 256 * ((p4 + p5) + 256 * ((p5 + p6) + 256 * ((p6 + p7) + 256 * p7)))))) := by omega
  rw [a1]
  obtain ⟨q0, e0⟩ : ∃ q, q = p0 + p1 := ⟨_, rfl⟩
  obtain ⟨q1, e1⟩ : ∃ q, q = p1 + p2 := ⟨_, rfl⟩
  obtain ⟨q2, e2⟩ : ∃ q, q = p2 + p3 := ⟨_, rfl⟩
  obtain ⟨q3, e3⟩ : ∃ q, q = p3 + p4 := ⟨_, rfl⟩
  obtain ⟨q4, e4⟩ : ∃ q, q = p4 + p5 := ⟨_, rfl⟩
  obtain ⟨q5, e5⟩ : ∃ q, q = p5 + p6 := ⟨_, rfl⟩
  obtain ⟨q6, e6⟩ : ∃ q, q = p6 + p7 := ⟨_, rfl⟩
  rw [← e0, ← e1, ← e2, ← e3, ← e4, ← e5, ← e6]
  have g0 : q0 ≤ 16 := by omega
  have g1 : q1 ≤ 16 := by omega
  have g2 : q2 ≤ 16 := by omega
  have g3 : q3 ≤ 16 := by omega
  have g4 : q4 ≤ 16 := by omega
  have g5 : q5 ≤ 16 := by omega
  have g6 : q6 ≤ 16 := by omega
  have e : q0 + p2 + p3 + p4 + p5 + p6 + p7 = q0 + q2 + q4 + q6 := by omega
  rw [e]
  clear e e0 e1 e2 e3 e4 e5 e6 a1 h0 h1 h2 h3 h4 h5 h6
  have a2 : ∀ Y, (q0 + 256 * (q1 + 256 * Y)) / 65536 = Y := fun Y => by omega
  rw [a2]
  have a3 : (q0 + 256 * (q1 + 256 * (q2 + 256 * (q3 + 256 * (q4 + 256 * (q5 + 256 * (q6 + 256 * p7)))))) + (q2 + 256 * (q3 + 256 * (q4 + 256 * (q5 + 256 * (q6 + 256 * p7))))))
     = (q0 + q2) + 256 * ((q1 + q3) + 256 * ((q2 + q4) + 256 * ((q3 + q5) + 256 * ((q4 + q6) + 256 * ((q5 + p7) + 256 * (q6 + 256 * p7)))))) := by omega
  rw [a3]
  have a4 : ∀ Z, ((q0 + q2) + 256 * ((q1 + q3) + 256 * ((q2 + q4) + 256 * ((q3 + q5) + 256 * Z)))) / 4294967296 = Z := fun Z => by omega
  rw [a4]
  generalize (q5 + p7) + 256 * (q6 + 256 * p7) = Z
  generalize (q1 + q3) + 256 * ((q2 + q4) + 256 * ((q3 + q5) + 256 * ((q4 + q6) + 256 * Z))) = R
  omega
theorem cnt64 (x : Nat) : fold3 (dig (fun b => cnt 8 b) 8 x) = cnt 64 x := by
  have e : cnt 64 x = cnt 8 (x % 256) + cnt 8 (x / 256 % 256) + cnt 8 (x / 256 / 256 % 256) + cnt 8 (x / 256 / 256 / 256 % 256) + cnt 8 (x / 256 / 256 / 256 / 256 % 256) + cnt 8 (x / 256 / 256 / 256 / 256 / 256 % 256)
      + cnt 8 (x / 256 / 256 / 256 / 256 / 256 / 256 % 256) + cnt 8 (x / 256 / 256 / 256 / 256 / 256 / 256 / 256 % 256) := by
    have c := fun m y => cnt_add 8 m y
    simp only [show (2 : Nat) ^ 8 = 256 from rfl] at c
    rw [show (64 : Nat) = 8 + (8 + (8 + (8 + (8 + (8 + (8 + (8 + 0))))))) from rfl, c, c, c, c, c, c, c, c]
    simp only [cnt]
    omega
  rw [e, ← sum_dig _ _ _ _ _ _ _ _ (cnt8_le _ (by omega)) (cnt8_le _ (by omega)) (cnt8_le _ (by omega)) (cnt8_le _ (by omega)) (cnt8_le _ (by omega)) (cnt8_le _ (by omega)) (cnt8_le _ (by omega)) (cnt8_le _ (by omega))]
  simp only [dig, Nat.mul_zero, Nat.add_zero]

/-- the lowest bit -/
theorem low_spec (w : Nat) (h0 : w ≠ 0) (h : w < 2 ^ 64) : ∃ m, w = 2 ^ Go.Lib.ctz 64 w * (2 * m + 1) ∧ Go.Lib.ctz 64 w < 64 := by
  have := Go.Lib.ctzFrom_spec 64 w (by omega) h
  have e : Go.Lib.ctz 64 w = Go.Lib.ctzFrom 64 w := by simp [Go.Lib.ctz, h0]
  rwa [← e] at this
theorem odd_bits (t m j : Nat) : (2 ^ t * (2 * m + 1)).testBit j = (decide (j = t) || (decide (t < j) && m.testBit (j - t - 1))) := by
  rw [Nat.mul_comm, Nat.testBit_mul_two_pow]
  rcases Nat.lt_trichotomy j t with h | h | h
  · simp [show ¬ t ≤ j by omega, show ¬ j = t by omega, show ¬ t < j by omega]
  · subst h; simp
  · obtain ⟨i, rfl⟩ : ∃ i, j = t + (i + 1) := ⟨j - t - 1, by omega⟩
    rw [show t + (i + 1) - t = i + 1 by omega, Nat.testBit_succ, show (2 * m + 1) / 2 = m by omega]
    simp
theorem pred_and (t m : Nat) : (2 ^ t * (2 * m + 1)) &&& (2 ^ t * (2 * m + 1) - 1) = 2 ^ t * (2 * m) := by
  have hp := Nat.two_pow_pos t
  have e : 2 ^ t * (2 * m + 1) - 1 = 2 ^ t * (2 * m) + (2 ^ t - 1) := by rw [Nat.mul_add]; omega
  rw [e]
  apply Nat.eq_of_testBit_eq
  intro j
  rw [Nat.testBit_and, odd_bits, Nat.testBit_two_pow_mul_add _ (by omega), Nat.mul_comm (2 ^ t), Nat.testBit_mul_two_pow, Nat.testBit_two_pow_sub_one]
  rcases Nat.lt_trichotomy j t with h | h | h
  · simp [show ¬ t ≤ j by omega, show ¬ j = t by omega, show ¬ t < j by omega]
  · subst h; simp
  · obtain ⟨i, rfl⟩ : ∃ i, j = t + (i + 1) := ⟨j - t - 1, by omega⟩
    rw [show t + (i + 1) - t = i + 1 by omega, Nat.testBit_succ, show (2 * m) / 2 = m by omega]
    simp [show ¬ t + (i + 1) < t by omega]
/-- the word without its lowest bit -/
theorem drop_low {w : Nat} (h0 : w ≠ 0) (h : w < 2 ^ 64) (j : Nat) : (w &&& (w - 1)).testBit j = (w.testBit j && decide (j ≠ Go.Lib.ctz 64 w)) := by
  obtain ⟨m, hm, -⟩ := low_spec w h0 h
  generalize Go.Lib.ctz 64 w = t at *
  subst hm
  rw [pred_and, odd_bits, Nat.mul_comm (2 ^ t), Nat.testBit_mul_two_pow]
  rcases Nat.lt_trichotomy j t with h | h | h
  · simp [show ¬ t ≤ j by omega, show ¬ j = t by omega, show ¬ t < j by omega]
  · subst h; simp
  · obtain ⟨i, rfl⟩ : ∃ i, j = t + (i + 1) := ⟨j - t - 1, by omega⟩
    rw [show t + (i + 1) - t = i + 1 by omega, Nat.testBit_succ, show (2 * m) / 2 = m by omega]
    simp
theorem low_set {w : Nat} (h0 : w ≠ 0) (h : w < 2 ^ 64) : w.testBit (Go.Lib.ctz 64 w) = true ∧ Go.Lib.ctz 64 w < 64 ∧ ∀ j, j < Go.Lib.ctz 64 w → w.testBit j = false := by
  obtain ⟨m, hm, hk⟩ := low_spec w h0 h
  refine ⟨?_, hk, fun j hj => ?_⟩
  · generalize Go.Lib.ctz 64 w = t at *
    rw [hm, odd_bits]; simp
  · generalize Go.Lib.ctz 64 w = t at *
    rw [hm, odd_bits]; simp; omega
theorem filter_split (n t : Nat) (p q : Nat → Bool) (ht : t < n) (hp : p t = true) (hlow : ∀ j, j < t → p j = false) (hq : ∀ j, q j = (p j && decide (j ≠ t))) :
    (List.range n).filter p = t :: (List.range n).filter q := by
  have e : List.range n = List.range t ++ (t :: (List.range' (t + 1) (n - t - 1))) := by
    rw [List.range_eq_range', List.range_eq_range', show n = t + (1 + (n - t - 1)) by omega, ← List.range'_append_1, ← List.range'_append_1]
    simp
  have f1 : (List.range t).filter p = [] := by rw [List.filter_eq_nil_iff]; intro a ha; simp [hlow a (by simpa using ha)]
  have f2 : (List.range t).filter q = [] := by rw [List.filter_eq_nil_iff]; intro a ha; simp [hq, hlow a (by simpa using ha)]
  have f3 : (List.range' (t + 1) (n - t - 1)).filter q = (List.range' (t + 1) (n - t - 1)).filter p := by
    apply List.filter_congr
    intro a ha
    rw [List.mem_range'_1] at ha
    rw [hq]
    simp [show a ≠ t by omega]
  rw [e, List.filter_append, List.filter_append, f1, f2, List.filter_cons_of_pos hp, List.filter_cons_of_neg (by simp [hq]), f3]
  simp
/-- the members in one word -/
def wmem (w : Nat) : List Nat := (List.range 64).filter w.testBit
theorem wmem_zero : wmem 0 = [] := by simp [wmem]
theorem wmem_step {w : Nat} (h0 : w ≠ 0) (h : w < 2 ^ 64) : wmem w = Go.Lib.ctz 64 w :: wmem (w &&& (w - 1)) := by
  obtain ⟨h1, h2, h3⟩ := low_set h0 h
  exact filter_split _ _ _ _ h2 h1 h3 (drop_low h0 h)
theorem wmem_length (w : Nat) : (wmem w).length = cnt 64 w := (cnt_filter 64 w).symm
end Go.Proofs.YtfinldppcdkeoaaDoor.Bm
