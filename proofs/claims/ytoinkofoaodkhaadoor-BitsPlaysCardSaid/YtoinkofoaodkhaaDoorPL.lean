/- Plain laws of bits: rows of truth values as numbers and as bytes; no program. -/
import Derived.Lib.TrailingZeros
namespace Go.BW.Bit

/-- the number whose bits these are, the lowest first -/
def natOf : List Bool → Nat
  | [] => 0
  | b :: l => b.toNat + 2 * natOf l
theorem natOf_bit : ∀ (l : List Bool) (i : Nat), (natOf l).testBit i = l.getD i false
  | [], i => by simp [natOf]
  | b :: l, 0 => by cases b <;> simp [natOf, Nat.testBit_zero] <;> omega
  | b :: l, i + 1 => by
    have h : (b.toNat + 2 * natOf l) / 2 = natOf l := by cases b <;> simp <;> omega
    unfold natOf
    rw [Nat.testBit_succ, h, natOf_bit l i]
    simp
theorem natOf_lt : ∀ l : List Bool, natOf l < 2 ^ l.length
  | [] => by simp [natOf]
  | b :: l => by
    have := natOf_lt l
    unfold natOf
    rw [List.length_cons, Nat.pow_succ]
    cases b <;> simp <;> omega
/-- the bits from 'at' on, so many of them, as a number -/
def part (bs : List Bool) (off size : Nat) : Nat := natOf ((bs.drop off).take size)
theorem part_bit (bs : List Bool) (off size i : Nat) : (part bs off size).testBit i = (decide (i < size) && bs.getD (off + i) false) := by
  unfold part
  rw [natOf_bit]
  by_cases h : i < size
  · simp [h, List.getD_eq_getElem?_getD, List.getElem?_take, List.getElem?_drop]
  · simp [h, List.getD_eq_getElem?_getD, List.getElem?_take]
theorem part_lt (bs : List Bool) (off size : Nat) : part bs off size < 2 ^ size := by
  refine Nat.lt_of_lt_of_le (natOf_lt _) (Nat.pow_le_pow_right (by decide) ?_)
  simp; omega
theorem part_congr {bs cs : List Bool} {off size : Nat} (h : ∀ i, i < size → bs.getD (off + i) false = cs.getD (off + i) false) : part bs off size = part cs off size := by
  apply Nat.eq_of_testBit_eq
  intro i
  rw [part_bit, part_bit]
  by_cases hi : i < size
  · rw [h i hi]
  · simp [hi]
def word (bs : List Bool) (j : Nat) : Nat := part bs (64 * j) 64
theorem word_bit (bs : List Bool) (j i : Nat) : (word bs j).testBit i = (decide (i < 64) && bs.getD (64 * j + i) false) := part_bit bs _ _ i
theorem word_lt (bs : List Bool) (j : Nat) : word bs j < 18446744073709551616 := part_lt bs _ 64
theorem and_one (x : Nat) : x &&& 1 = (x.testBit 0).toNat := by
  rw [Nat.and_one_is_mod, Nat.testBit_zero]
  rcases Nat.mod_two_eq_zero_or_one x with h | h <;> simp [h]
theorem word_has (bs : List Bool) (i : Nat) : (word bs (i / 64) >>> (i % 64)) &&& 1 = (bs.getD i false).toNat := by
  rw [and_one, Nat.testBit_shiftRight, word_bit]
  have h : i % 64 < 64 := Nat.mod_lt _ (by decide)
  have e : 64 * (i / 64) + (i % 64 + 0) = i := by omega
  simp only [Nat.add_zero] at e ⊢
  simp [h, e]
theorem getD_set (bs : List Bool) (i k : Nat) (b : Bool) (hi : i < bs.length) : (bs.set i b).getD k false = if k = i then b else bs.getD k false := by
  simp only [List.getD_eq_getElem?_getD, List.getElem?_set]
  by_cases h : i = k
  · subst h; simp [hi]
  · rw [if_neg h, if_neg (fun e => h e.symm)]
theorem one_shl_bit (s k : Nat) : (1 <<< s : Nat).testBit k = decide (s = k) := by rw [Nat.shiftLeft_eq, Nat.one_mul, Nat.testBit_two_pow]
theorem word_take (bs : List Bool) (i : Nat) (hi : i < bs.length) : word bs (i / 64) ||| (1 <<< (i % 64)) = word (bs.set i true) (i / 64) := by
  apply Nat.eq_of_testBit_eq
  intro k
  rw [Nat.testBit_or, word_bit, word_bit, one_shl_bit, getD_set _ _ _ _ hi]
  by_cases hk : k = i % 64
  · subst hk
    have h : i % 64 < 64 := Nat.mod_lt _ (by decide)
    have e : 64 * (i / 64) + i % 64 = i := by omega
    simp [h, e]
  · by_cases h2 : k < 64
    · have e : 64 * (i / 64) + k ≠ i := by omega
      simp [e, h2]; omega
    · simp [h2]; omega
theorem word_other (bs : List Bool) (i j : Nat) (b : Bool) (hi : i < bs.length) (hj : j ≠ i / 64) : word (bs.set i b) j = word bs j := by
  apply part_congr
  intro k hk
  rw [getD_set _ _ _ _ hi, if_neg (by omega)]
theorem word_free (bs : List Bool) (i : Nat) (hi : i < bs.length) : word bs (i / 64) &&& (18446744073709551615 - (1 <<< (i % 64))) = word (bs.set i false) (i / 64) := by
  have h : i % 64 < 64 := Nat.mod_lt _ (by decide)
  have hp : (1 <<< (i % 64) : Nat) = 2 ^ (i % 64) := by rw [Nat.shiftLeft_eq, Nat.one_mul]
  apply Nat.eq_of_testBit_eq
  intro k
  have e1 : (18446744073709551615 : Nat) - 1 <<< (i % 64) = 2 ^ 64 - ((1 <<< (i % 64)) + 1) := by omega
  rw [Nat.testBit_and, word_bit, word_bit, getD_set _ _ _ _ hi, e1, Nat.testBit_two_pow_sub_succ (by rw [hp]; exact Nat.pow_lt_pow_right (by decide) h), one_shl_bit]
  by_cases hk : k = i % 64
  · subst hk
    have e : 64 * (i / 64) + i % 64 = i := by omega
    simp [e]
  · by_cases h2 : k < 64
    · have e : 64 * (i / 64) + k ≠ i := by omega
      simp [e, h2]
      intro _; omega
    · simp [h2]
/-- the words of a map that has so many of them -/
theorem words_set (bs : List Bool) (i n : Nat) (b : Bool) (hi : i < bs.length) : (List.range n).map (word (bs.set i b)) = ((List.range n).map (word bs)).set (i / 64) (word (bs.set i b) (i / 64)) := by
  apply List.ext_getElem?
  intro j
  simp only [List.getElem?_map, List.getElem?_set, List.length_map, List.length_range]
  by_cases hj : i / 64 = j
  · subst hj
    by_cases hn : i / 64 < n
    · simp [hn]
    · simp [hn]
  · rw [if_neg hj]
    by_cases hn : j < n
    · simp [hn, word_other bs i j b hi (Ne.symm hj)]
    · simp [hn]
/-! the lowest bit -/
theorem ctzFrom_least : ∀ (f x : Nat), 0 < x → x < 2 ^ f → x.testBit (Lib.ctzFrom f x) = true ∧ ∀ k, k < Lib.ctzFrom f x → x.testBit k = false
  | 0, x, h0, h => by simp at h; omega
  | f + 1, x, h0, h => by
    unfold Lib.ctzFrom
    split
    · rename_i h1
      exact ⟨by simp [Nat.testBit_zero, h1], fun k hk => by omega⟩
    · rename_i h1
      have hx : x / 2 < 2 ^ f := by rw [Nat.pow_succ] at h; omega
      obtain ⟨h2, h3⟩ := ctzFrom_least f (x / 2) (by omega) hx
      refine ⟨by rw [Nat.add_comm, Nat.testBit_succ]; exact h2, fun k hk => ?_⟩
      rcases k with _ | k
      · simp [Nat.testBit_zero]; omega
      · rw [Nat.testBit_succ]; exact h3 k (by omega)
theorem ctz_least {x : Nat} (h0 : x ≠ 0) (h : x < 2 ^ 64) : x.testBit (Lib.ctz 64 x) = true ∧ (∀ k, k < Lib.ctz 64 x → x.testBit k = false) ∧ Lib.ctz 64 x < 64 := by
  obtain ⟨h1, h2⟩ := ctzFrom_least 64 x (by omega) h
  obtain ⟨_, _, h3⟩ := Lib.ctzFrom_spec 64 x (by omega) h
  have e : Lib.ctz 64 x = Lib.ctzFrom 64 x := by simp [Lib.ctz, h0]
  rw [e]
  exact ⟨h1, h2, h3⟩
/-- what is free in a word, as a number -/
theorem not_bit {x : Nat} (h : x < 2 ^ 64) (k : Nat) : (18446744073709551615 - x).testBit k = (decide (k < 64) && !x.testBit k) := by
  have e : (18446744073709551615 : Nat) - x = 2 ^ 64 - (x + 1) := by omega
  rw [e, Nat.testBit_two_pow_sub_succ h]
theorem mask_bit (s k : Nat) (hs : s < 64) : ((18446744073709551615 <<< s) % 18446744073709551616).testBit k = (decide (s ≤ k) && decide (k < 64)) := by
  have e1 : (18446744073709551616 : Nat) = 2 ^ 64 := by decide
  have e2 : (18446744073709551615 : Nat) = 2 ^ 64 - (0 + 1) := by decide
  rw [e1, Nat.testBit_mod_two_pow, Nat.testBit_shiftLeft, e2, Nat.testBit_two_pow_sub_succ (by decide)]
  by_cases h1 : k < 64
  · by_cases h2 : s ≤ k
    · have : k - s < 64 := by omega
      simp [h1, h2, this]
    · simp [h1, h2]
  · simp [h1]
/-! bytes -/
def bytesOf (bs : List Bool) : List UInt8 := (List.range ((bs.length + 7) / 8)).map fun j => UInt8.ofNat (part bs (8 * j) 8)
theorem bytesOf_len (bs : List Bool) : (bytesOf bs).length = (bs.length + 7) / 8 := by simp [bytesOf]
def bitAt (l : List UInt8) (i : Nat) : Bool := (l.getD (i / 8) 0).toNat.testBit (i % 8)
theorem bitAt_of (bs : List Bool) (i : Nat) : bitAt (bytesOf bs) i = bs.getD i false := by
  unfold bitAt bytesOf
  have h8 : i % 8 < 8 := Nat.mod_lt _ (by decide)
  by_cases h : i / 8 < (bs.length + 7) / 8
  · have h2 : part bs (8 * (i / 8)) 8 % 256 = part bs (8 * (i / 8)) 8 := Nat.mod_eq_of_lt (part_lt bs _ 8)
    have e : 8 * (i / 8) + i % 8 = i := by omega
    simp only [List.getD_eq_getElem?_getD, List.getElem?_map, List.getElem?_range h, Option.map_some, Option.getD_some, UInt8.toNat_ofNat', h2]
    rw [part_bit, e, List.getD_eq_getElem?_getD]
    simp [h8]
  · have h2 : ¬ i < bs.length := by omega
    have h3 : (List.range ((bs.length + 7) / 8))[i / 8]? = none := by simp; omega
    simp [List.getD_eq_getElem?_getD, h3, h2]
/-- byte j out of the word that has it -/
theorem byte_word (bs : List Bool) (j : Nat) : (word bs (j / 8) >>> (j % 8 * 8)) % 256 = part bs (8 * j) 8 := by
  apply Nat.eq_of_testBit_eq
  intro k
  rw [show (256 : Nat) = 2 ^ 8 from rfl, Nat.testBit_mod_two_pow, Nat.testBit_shiftRight, word_bit, part_bit]
  by_cases h : k < 8
  · have h1 : j % 8 * 8 + k < 64 := by omega
    have e : 64 * (j / 8) + (j % 8 * 8 + k) = 8 * j + k := by omega
    simp [h, h1, e]
  · simp [h]
theorem bits_ext {a b : List Bool} (hl : a.length = b.length) (h : ∀ i, i < a.length → a.getD i false = b.getD i false) : a = b := by
  apply List.ext_getElem hl
  intro i h1 h2
  have := h i h1
  simpa [List.getD_eq_getElem?_getD, List.getElem?_eq_getElem h1, List.getElem?_eq_getElem h2] using this
def bitsOf (n : Nat) (l : List UInt8) : List Bool := (List.range n).map (bitAt l)
theorem bitsOf_len (n : Nat) (l : List UInt8) : (bitsOf n l).length = n := by simp [bitsOf]
theorem bitsOf_at (n : Nat) (l : List UInt8) (i : Nat) : (bitsOf n l).getD i false = (decide (i < n) && bitAt l i) := by
  unfold bitsOf
  by_cases h : i < n
  · simp [List.getD_eq_getElem?_getD, h]
  · have h3 : (List.range n)[i]? = none := by simp; omega
    simp [List.getD_eq_getElem?_getD, h3, h]
theorem bitsOf_bytesOf (bs : List Bool) : bitsOf bs.length (bytesOf bs) = bs := by
  apply bits_ext (bitsOf_len _ _)
  intro i hi
  rw [bitsOf_at, bitAt_of]
  rw [bitsOf_len] at hi
  simp [hi]
/-- are these bytes those of a map of n places? -/
def okB (n : Nat) (l : List UInt8) : Bool := decide (l.length = (n + 7) / 8) && (decide (n % 8 = 0) || decide ((l.getD (l.length - 1) 0).toNat >>> (n % 8) = 0))
theorem shift_zero (x s : Nat) : x >>> s = 0 ↔ ∀ k, s ≤ k → x.testBit k = false := by
  constructor
  · intro h k hk
    have := congrArg (fun y => y.testBit (k - s)) h
    simp only [Nat.testBit_shiftRight, Nat.zero_testBit] at this
    rwa [show s + (k - s) = k by omega] at this
  · intro h
    apply Nat.eq_of_testBit_eq
    intro k
    rw [Nat.testBit_shiftRight, Nat.zero_testBit]
    exact h _ (by omega)
theorem u8_ext {a b : UInt8} (h : ∀ k, k < 8 → a.toNat.testBit k = b.toNat.testBit k) : a = b := by
  apply UInt8.toNat_inj.1
  apply Nat.eq_of_testBit_eq
  intro k
  by_cases hk : k < 8
  · exact h k hk
  · have ha : a.toNat < 2 ^ k := Nat.lt_of_lt_of_le (show a.toNat < 2 ^ 8 from a.toNat_lt) (Nat.pow_le_pow_right (by decide) (by omega))
    have hb : b.toNat < 2 ^ k := Nat.lt_of_lt_of_le (show b.toNat < 2 ^ 8 from b.toNat_lt) (Nat.pow_le_pow_right (by decide) (by omega))
    rw [Nat.testBit_lt_two_pow ha, Nat.testBit_lt_two_pow hb]
theorem okB_iff (n : Nat) (l : List UInt8) : okB n l = true ↔ bytesOf (bitsOf n l) = l := by
  constructor
  · intro h
    unfold okB at h
    simp only [Bool.and_eq_true, decide_eq_true_eq, Bool.or_eq_true] at h
    obtain ⟨hl, h2⟩ := h
    apply List.ext_getElem (by rw [bytesOf_len, bitsOf_len, hl])
    intro j hj1 hj2
    apply u8_ext
    intro k hk
    have e1 := bitAt_of (bitsOf n l) (8 * j + k)
    have ej : (8 * j + k) / 8 = j := by omega
    have ek : (8 * j + k) % 8 = k := by omega
    have e2 : bitAt (bytesOf (bitsOf n l)) (8 * j + k) = (bytesOf (bitsOf n l))[j].toNat.testBit k := by
      unfold bitAt; rw [ej, ek]; simp [List.getD_eq_getElem?_getD, List.getElem?_eq_getElem hj1]
    have e3 : bitAt l (8 * j + k) = l[j].toNat.testBit k := by
      unfold bitAt; rw [ej, ek]; simp [List.getD_eq_getElem?_getD, List.getElem?_eq_getElem hj2]
    rw [← e2, e1, bitsOf_at, e3]
    by_cases hn : 8 * j + k < n
    · simp [hn]
    · simp only [hn, decide_false, Bool.false_and]
      rcases h2 with h2 | h2
      · rw [hl] at hj2; omega
      · have hjl : j = l.length - 1 := by omega
        rw [shift_zero] at h2
        have := h2 k (by omega)
        rw [← hjl] at this
        simp [List.getD_eq_getElem?_getD, List.getElem?_eq_getElem hj2] at this
        exact this.symm
  · intro h
    have hl : l.length = (n + 7) / 8 := by rw [← h, bytesOf_len, bitsOf_len]
    unfold okB
    simp only [Bool.and_eq_true, decide_eq_true_eq, Bool.or_eq_true]
    refine ⟨hl, ?_⟩
    by_cases h0 : n % 8 = 0
    · exact .inl h0
    · right
      rw [shift_zero]
      intro k hk
      by_cases hk8 : k < 8
      · have e1 := bitAt_of (bitsOf n l) (8 * (l.length - 1) + k)
        rw [h, bitsOf_at] at e1
        unfold bitAt at e1
        rw [show (8 * (l.length - 1) + k) / 8 = l.length - 1 by omega, show (8 * (l.length - 1) + k) % 8 = k by omega] at e1
        rw [e1]
        have : ¬ 8 * (l.length - 1) + k < n := by omega
        simp [this]
      · exact Nat.testBit_lt_two_pow (Nat.lt_of_lt_of_le (UInt8.toNat_lt _) (Nat.pow_le_pow_right (show 0 < 2 by decide) (show 8 ≤ k by omega)))
/-! the next free one -/
def nxt (bs : List Bool) (f : Nat) : Option Nat := (List.range bs.length).find? fun i => decide (f ≤ i) && !bs.getD i false
theorem find_range (p : Nat → Bool) (i : Nat) : ∀ n, (List.range n).find? p = some i ↔ i < n ∧ p i = true ∧ ∀ j, j < i → p j = false
  | 0 => by simp
  | n + 1 => by
    rw [List.range_succ, List.find?_append]
    constructor
    · intro h
      cases h1 : (List.range n).find? p with
      | some k =>
        rw [h1] at h
        simp at h
        subst h
        obtain ⟨a, b, c⟩ := (find_range p k n).1 h1
        exact ⟨by omega, b, c⟩
      | none =>
        rw [h1] at h
        simp only [Option.none_or] at h
        rw [List.find?_eq_none] at h1
        simp [List.find?_cons] at h
        split at h
        · injection h with h
          subst h
          rename_i hp
          exact ⟨by omega, hp, fun j hj => by have := h1 j (by simp; exact hj); simpa using this⟩
        · cases h
    · rintro ⟨h1, h2, h3⟩
      by_cases hi : i < n
      · rw [(find_range p i n).2 ⟨hi, h2, h3⟩]; rfl
      · have : i = n := by omega
        subst this
        have : (List.range i).find? p = none := by
          rw [List.find?_eq_none]
          intro j hj
          simp at hj
          rw [h3 j hj]; simp
        rw [this]
        simp [List.find?_cons, h2]
theorem nxt_some (bs : List Bool) (f i : Nat) : nxt bs f = some i ↔ i < bs.length ∧ f ≤ i ∧ bs.getD i false = false ∧ ∀ j, f ≤ j → j < i → bs.getD j false = true := by
  unfold nxt
  rw [find_range]
  constructor
  · rintro ⟨h1, h2, h3⟩
    simp only [Bool.and_eq_true, decide_eq_true_eq, Bool.not_eq_true'] at h2
    refine ⟨h1, h2.1, h2.2, fun j hf hj => ?_⟩
    have := h3 j hj
    simpa [hf] using this
  · rintro ⟨h1, h2, h3, h4⟩
    refine ⟨h1, by rw [h3]; simp [h2], fun j hj => ?_⟩
    by_cases hf : f ≤ j
    · rw [h4 j hf hj]; simp
    · simp [hf]
theorem nxt_none (bs : List Bool) (f : Nat) : nxt bs f = none ↔ ∀ j, f ≤ j → j < bs.length → bs.getD j false = true := by
  unfold nxt
  rw [List.find?_eq_none]
  constructor
  · intro h j hf hj
    have := h j (by simp; exact hj)
    simpa [hf] using this
  · intro h j hj
    simp at hj
    by_cases hf : f ≤ j
    · rw [h j hf hj]; simp
    · simp [hf]
/-- the free ones of a word, from a place on -/
def freeW (bs : List Bool) (f k : Nat) : Nat := if k = f / 64 then (18446744073709551615 - word bs k) &&& ((18446744073709551615 <<< (f % 64)) % 18446744073709551616) else 18446744073709551615 - word bs k
theorem freeW_lt (bs : List Bool) (f k : Nat) : freeW bs f k < 2 ^ 64 := by
  unfold freeW
  split
  · exact Nat.and_lt_two_pow _ (Nat.mod_lt _ (by decide))
  · omega
theorem freeW_bit (bs : List Bool) (f k i : Nat) (hk : f / 64 ≤ k) : (freeW bs f k).testBit i = (decide (i < 64) && !bs.getD (64 * k + i) false && decide (f ≤ 64 * k + i)) := by
  unfold freeW
  split
  · rename_i h
    rw [Nat.testBit_and, not_bit (word_lt bs k), word_bit, mask_bit _ _ (Nat.mod_lt _ (by decide))]
    by_cases hi : i < 64
    · have e : (f % 64 ≤ i) = (f ≤ 64 * k + i) := by apply propext; omega
      simp [hi, e]
    · simp [hi]
  · rename_i h
    rw [not_bit (word_lt bs k), word_bit]
    by_cases hi : i < 64
    · have : f ≤ 64 * k + i := by omega
      simp [hi, this]
    · simp [hi]
/-- a word has none that is free: go on -/
theorem next_zero {bs : List Bool} {f k : Nat} (hk : f / 64 ≤ k) (h0 : freeW bs f k = 0) (h : ∀ j, f ≤ j → j < 64 * k → j < bs.length → bs.getD j false = true) : ∀ j, f ≤ j → j < 64 * (k + 1) → j < bs.length → bs.getD j false = true := by
  intro j hf hj hl
  by_cases h1 : j < 64 * k
  · exact h j hf h1 hl
  · have := freeW_bit bs f k (j - 64 * k) hk
    rw [h0, Nat.zero_testBit, show 64 * k + (j - 64 * k) = j by omega] at this
    have h2 : j - 64 * k < 64 := by omega
    simp [h2, hf] at this
    simpa using this
/-- a word has one -/
theorem next_hit {bs : List Bool} {f k : Nat} (hk : f / 64 ≤ k) (h0 : freeW bs f k ≠ 0) (h : ∀ j, f ≤ j → j < 64 * k → j < bs.length → bs.getD j false = true) :
    (64 * k + Lib.ctz 64 (freeW bs f k) < bs.length → nxt bs f = some (64 * k + Lib.ctz 64 (freeW bs f k))) ∧
    (¬ 64 * k + Lib.ctz 64 (freeW bs f k) < bs.length → ∀ j, f ≤ j → j < 64 * (k + 1) → j < bs.length → bs.getD j false = true) := by
  obtain ⟨h1, h2, h3⟩ := ctz_least h0 (freeW_lt bs f k)
  have key : ∀ j, f ≤ j → j < 64 * k + Lib.ctz 64 (freeW bs f k) → j < bs.length → bs.getD j false = true := by
    intro j hf hj hl
    by_cases hjk : j < 64 * k
    · exact h j hf hjk hl
    · have h4 := h2 (j - 64 * k) (by omega)
      rw [freeW_bit bs f k _ hk, show 64 * k + (j - 64 * k) = j by omega] at h4
      have h5 : j - 64 * k < 64 := by omega
      simp [h5, hf] at h4
      simpa using h4
  rw [freeW_bit bs f k _ hk] at h1
  simp only [Bool.and_eq_true, decide_eq_true_eq, Bool.not_eq_true'] at h1
  refine ⟨fun hl => ?_, fun hl j hf _ hj => key j hf (by omega) hj⟩
  rw [nxt_some]
  exact ⟨hl, h1.2, h1.1.2, fun j hf hj => key j hf hj (by omega)⟩
theorem next_end {bs : List Bool} {f k : Nat} (hk : bs.length ≤ 64 * k) (h : ∀ j, f ≤ j → j < 64 * k → j < bs.length → bs.getD j false = true) : nxt bs f = none :=
  (nxt_none bs f).2 fun j hf hj => h j hf (by omega) hj
/-! how many are taken -/
def cnt (bs : List Bool) : Nat := bs.count true
theorem cnt_le (bs : List Bool) : cnt bs ≤ bs.length := List.count_le_length
theorem cnt_set : ∀ (bs : List Bool) (i : Nat), i < bs.length → bs.getD i false = false → cnt (bs.set i true) = cnt bs + 1
  | [], i, h, _ => by simp at h
  | b :: bs, 0, _, h => by simp at h; subst h; simp [cnt]
  | b :: bs, i + 1, h, h2 => by
    have := cnt_set bs i (by simpa using h) (by simpa using h2)
    unfold cnt at this ⊢
    rw [List.set_cons_succ, List.count_cons, List.count_cons, this]
    omega
theorem cnt_unset : ∀ (bs : List Bool) (i : Nat), i < bs.length → bs.getD i false = true → cnt (bs.set i false) + 1 = cnt bs
  | [], i, h, _ => by simp at h
  | b :: bs, 0, _, h => by simp at h; subst h; simp [cnt]
  | b :: bs, i + 1, h, h2 => by
    have := cnt_unset bs i (by simpa using h) (by simpa using h2)
    unfold cnt at this ⊢
    rw [List.set_cons_succ, List.count_cons, List.count_cons]
    omega
theorem cnt_zero (n : Nat) : cnt (List.replicate n false) = 0 := by simp [cnt, List.count_replicate]
theorem cnt_take (bs : List Bool) (k : Nat) (hk : k < bs.length) : cnt (bs.take (k + 1)) = cnt (bs.take k) + (bs.getD k false).toNat := by
  unfold cnt
  rw [List.take_succ_eq_append_getElem hk, List.count_append, List.getD_eq_getElem?_getD, List.getElem?_eq_getElem hk]
  cases bs[k] <;> simp
end Go.BW.Bit

