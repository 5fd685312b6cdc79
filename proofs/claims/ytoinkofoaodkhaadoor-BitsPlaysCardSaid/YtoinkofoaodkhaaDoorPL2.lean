/- Plain laws of bytes that grow bit by bit. -/
import Derived.Test.YtoinkofoaodkhaaDoorPL
namespace Go.BW.Bit

theorem getD_take (bs : List Bool) (k i : Nat) : (bs.take k).getD i false = (decide (i < k) && bs.getD i false) := by
  simp only [List.getD_eq_getElem?_getD, List.getElem?_take]
  by_cases h : i < k <;> simp [h]
theorem byte_bit (bs : List Bool) (j i : Nat) (hj : j < (bytesOf bs).length) (hi : i < 8) : ((bytesOf bs)[j]).toNat.testBit i = bs.getD (8 * j + i) false := by
  have := bitAt_of bs (8 * j + i)
  unfold bitAt at this
  rw [show (8 * j + i) / 8 = j by omega, show (8 * j + i) % 8 = i by omega, List.getD_eq_getElem?_getD, List.getElem?_eq_getElem hj] at this
  exact this
/-- the row ahead of its next bit -/
def grow (bs : List Bool) (k : Nat) : List UInt8 := if k % 8 = 0 then bytesOf (bs.take k) ++ [0] else bytesOf (bs.take k)
theorem grow_len (bs : List Bool) (k : Nat) (hk : k < bs.length) : (grow bs k).length = k / 8 + 1 := by
  unfold grow
  split
  · rw [List.length_append, bytesOf_len, List.length_take]; simp; omega
  · rw [bytesOf_len, List.length_take]; omega
theorem grow_bit (bs : List Bool) (k : Nat) (hk : k < bs.length) (j i : Nat) (hj : j < (grow bs k).length) (hi : i < 8) : ((grow bs k)[j]).toNat.testBit i = (decide (8 * j + i < k) && bs.getD (8 * j + i) false) := by
  have hl := grow_len bs k hk
  by_cases h8 : k % 8 = 0
  · have e : grow bs k = bytesOf (bs.take k) ++ [0] := by unfold grow; rw [if_pos h8]
    have hb : (bytesOf (bs.take k)).length = k / 8 := by rw [bytesOf_len, List.length_take]; omega
    have e2 : (grow bs k)[j]? = some ((grow bs k)[j]) := List.getElem?_eq_getElem hj
    by_cases hjk : j < k / 8
    · have e3 : (grow bs k)[j]? = some ((bytesOf (bs.take k))[j]'(by omega)) := by
        rw [e, List.getElem?_append_left (by omega), List.getElem?_eq_getElem]
      rw [e2] at e3
      injection e3 with e3
      rw [e3, byte_bit _ _ _ _ hi, getD_take]
    · have hj2 : j = k / 8 := by omega
      have e3 : (grow bs k)[j]? = some 0 := by
        rw [e, List.getElem?_append_right (by omega), hb, hj2, Nat.sub_self]; rfl
      rw [e2] at e3
      injection e3 with e3
      have : ¬ 8 * j + i < k := by omega
      rw [e3]
      simp [this]
  · have e : grow bs k = bytesOf (bs.take k) := by unfold grow; rw [if_neg h8]
    have e2 : (grow bs k)[j]? = some ((grow bs k)[j]) := List.getElem?_eq_getElem hj
    have hj2 : j < (bytesOf (bs.take k)).length := by rw [← e]; exact hj
    have e3 : (grow bs k)[j]? = some ((bytesOf (bs.take k))[j]) := by rw [e]; exact List.getElem?_eq_getElem hj2
    rw [e2] at e3
    injection e3 with e3
    rw [e3, byte_bit _ _ _ hj2 hi, getD_take]
theorem grow_lt (bs : List Bool) (k : Nat) (hk : k < bs.length) : ((grow bs k)[k / 8]'(by rw [grow_len bs k hk]; omega)).toNat < 2 ^ (k % 8) := by
  apply Nat.lt_of_not_le
  intro hle
  obtain ⟨i, hi, hb⟩ := Nat.exists_ge_and_testBit_of_ge_two_pow hle
  have h8 : i < 8 := by
    apply Nat.lt_of_not_le
    intro h
    have h1 := Nat.testBit_lt_two_pow (show ((grow bs k)[k / 8]'(by rw [grow_len bs k hk]; omega)).toNat < 2 ^ i from Nat.lt_of_lt_of_le (UInt8.toNat_lt _) (Nat.pow_le_pow_right (show 0 < 2 by decide) h))
    rw [h1] at hb
    cases hb
  rw [grow_bit bs k hk _ _ _ h8] at hb
  have : ¬ 8 * (k / 8) + i < k := by omega
  simp [this] at hb
theorem grow_off (bs : List Bool) (k : Nat) (hk : k < bs.length) (hv : bs.getD k false = false) : bytesOf (bs.take (k + 1)) = grow bs k := by
  have hl := grow_len bs k hk
  have hb : (bytesOf (bs.take (k + 1))).length = k / 8 + 1 := by rw [bytesOf_len, List.length_take]; omega
  apply List.ext_getElem (by omega)
  intro j h1 h2
  apply u8_ext
  intro i hi
  rw [byte_bit _ _ _ h1 hi, grow_bit bs k hk _ _ h2 hi, getD_take]
  by_cases h : 8 * j + i = k
  · rw [h, hv]; simp
  · have : (8 * j + i < k + 1) = (8 * j + i < k) := by apply propext; omega
    simp [this]
theorem grow_on (bs : List Bool) (k : Nat) (hk : k < bs.length) (hv : bs.getD k false = true) : bytesOf (bs.take (k + 1)) = (grow bs k).set (k / 8) (UInt8.ofNat (((grow bs k)[k / 8]'(by rw [grow_len bs k hk]; omega)).toNat + 2 ^ (k % 8))) := by
  have hl := grow_len bs k hk
  have hb : (bytesOf (bs.take (k + 1))).length = k / 8 + 1 := by rw [bytesOf_len, List.length_take]; omega
  have hs8 : k % 8 < 8 := Nat.mod_lt _ (by decide)
  have hlt := grow_lt bs k hk
  apply List.ext_getElem (by rw [List.length_set]; omega)
  intro j h1 h2
  apply u8_ext
  intro i hi
  rw [byte_bit _ _ _ h1 hi, getD_take]
  rw [List.getElem_set]
  by_cases hj : k / 8 = j
  · subst hj
    rw [if_pos rfl]
    have hp : 2 ^ (k % 8) ≤ 2 ^ 7 := Nat.pow_le_pow_right (by decide) (by omega)
    have hm : ((grow bs k)[k / 8]'(by rw [grow_len bs k hk]; omega)).toNat + 2 ^ (k % 8) < 256 := by omega
    rw [UInt8.toNat_ofNat', Nat.mod_eq_of_lt (by omega), Nat.add_comm _ (2 ^ (k % 8))]
    have e := Nat.two_pow_add_eq_or_of_lt hlt 1
    rw [Nat.mul_one] at e
    rw [e, Nat.testBit_or, Nat.testBit_two_pow, grow_bit bs k hk _ _ _ hi]
    by_cases h : k % 8 = i
    · have hk2 : 8 * (k / 8) + i = k := by omega
      rw [hk2, hv]
      simp [h]
    · have : (8 * (k / 8) + i < k + 1) = (8 * (k / 8) + i < k) := by apply propext; omega
      simp [this, h]
  · rw [if_neg hj, grow_bit bs k hk _ _ _ hi]
    have h3 : 8 * j + i ≠ k := by omega
    have : (8 * j + i < k + 1) = (8 * j + i < k) := by apply propext; omega
    simp [this]
end Go.BW.Bit

