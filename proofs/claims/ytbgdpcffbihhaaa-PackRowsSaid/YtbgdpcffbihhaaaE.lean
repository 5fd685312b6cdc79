/- Plain laws of rows of numbers written as bytes and read again; each under the premises that it states. -/
import Derived.Test.YtbgdpcffbihhaaaD
namespace Go.Proofs.Ytbgdpcffbihhaaa
open Go.RowKit Go.BW

def enc (zs : List Int) (wd : Nat) : List UInt8 := be zs.length 2 ++ zs.flatMap (be · wd)
theorem flat_len (zs : List Int) (wd : Nat) : (zs.flatMap (be · wd)).length = zs.length * wd := by
  induction zs with
  | nil => simp
  | cons z zs ih => rw [List.flatMap_cons, List.length_append, len_be, ih, List.length_cons, Nat.add_mul]; omega
theorem enc_len (zs : List Int) (wd : Nat) : (enc zs wd).length = 2 + zs.length * wd := by
  rw [enc, List.length_append, len_be, flat_len]
theorem rowAcc_enc (bs : List UInt8) (m : Nat) (hm : m ≤ 65535) (wd : Nat) : ∀ (zs : List Int), (∀ z ∈ zs, mayB z wd = true) → rowAcc bs m zs wd = bs ++ be m 2 ++ zs.flatMap (be · wd) := by
  have h2 : mayB m 2 = true := mayB_iff.2 ⟨by decide, by decide, by omega, by
    have : (2 : Int) ^ (8 * (2 : Int)).toNat = 65536 := by decide
    omega⟩
  have h : ∀ (l : List Int), (∀ z ∈ l.reverse, mayB z wd = true) → rowAcc bs m l.reverse wd = bs ++ be m 2 ++ l.reverse.flatMap (be · wd) := by
    intro l
    induction l with
    | nil => intro _; rw [List.reverse_nil, rowAcc_nil]; simp [putL, h2]
    | cons c l ih =>
      intro ha
      rw [List.reverse_cons] at ha ⊢
      rw [rowAcc_snoc, ih (fun z hz => ha z (List.mem_append_left _ hz)), List.flatMap_append, ← List.append_assoc]
      simp [putL, ha c (List.mem_append_right _ (List.mem_singleton.2 rfl))]
  intro zs ha
  have := h zs.reverse (by simpa using ha)
  simpa using this
theorem putRow_enc (bs : List UInt8) (zs : List Int) (wd : Nat) (h1 : 1 ≤ wd) (h6 : wd ≤ 6) (hl : zs.length ≤ 65535) (ha : ∀ z ∈ zs, mayB z wd = true) : putRowL bs zs wd = bs ++ enc zs wd := by
  have hb : putRowB zs wd = true := by
    unfold putRowB
    rw [Bool.and_eq_true, decide_eq_true_iff, List.all_eq_true]
    exact ⟨⟨hl, by omega, by omega⟩, ha⟩
  unfold putRowL
  rw [hb, if_pos rfl, rowAcc_enc bs _ hl wd zs ha, enc, List.append_assoc]
theorem may_mod (z : Int) (wd : Nat) (h : mayB z wd = true) : z % 256 ^ wd = z := by
  obtain ⟨_, _, h0, h1⟩ := mayB_iff.1 h
  rw [show (8 * (wd : Int)).toNat = 8 * wd from by omega, Int.pow_mul] at h1
  exact Int.emod_eq_of_lt h0 h1
theorem getL_be (z : Int) (wd : Nat) (more : List UInt8) (h : mayB z wd = true) : getL (be z wd ++ more) wd = z := by
  obtain ⟨h1, h6, h0, _⟩ := mayB_iff.1 h
  have hb : getB (be z wd ++ more).length wd = true := by
    unfold getB
    rw [decide_eq_true_iff, List.length_append, len_be]
    omega
  have ht : (be z wd ++ more).take wd = be z wd := by
    have := List.take_left (l₁ := be z wd) (l₂ := more)
    rwa [len_be] at this
  rw [getL, hb, if_pos rfl, Int.toNat_natCast, ht, beV_be z h0, may_mod z wd h]
theorem rowN_enc (zs : List Int) (wd : Nat) (more : List UInt8) (hl : zs.length ≤ 65535) : rowN (enc zs wd ++ more) = zs.length := by
  have h2 : mayB zs.length (2 : Nat) = true := mayB_iff.2 ⟨by decide, by decide, by omega, by
    have : (2 : Int) ^ (8 * ((2 : Nat) : Int)).toNat = 65536 := by decide
    omega⟩
  have := getL_be zs.length 2 (zs.flatMap (be · wd) ++ more) h2
  rw [rowN, enc, List.append_assoc]
  exact this
theorem rowB_enc (zs : List Int) (wd : Nat) (more : List UInt8) (h1 : 1 ≤ wd) (h6 : wd ≤ 6) (hl : zs.length ≤ 65535) : rowB (enc zs wd ++ more) wd = true := by
  unfold rowB
  rw [decide_eq_true_iff, rowN_enc zs wd more hl, List.length_append, enc_len, ← Int.natCast_mul]
  omega
theorem drop_enc (zs : List Int) (wd k : Nat) (more : List UInt8) (hk : k < zs.length) :
    (enc zs wd ++ more).drop (2 + k * wd) = be zs[k] wd ++ ((zs.drop (k + 1)).flatMap (be · wd) ++ more) := by
  have e : zs = zs.take k ++ zs[k] :: zs.drop (k + 1) := by
    rw [← List.drop_eq_getElem_cons hk, List.take_append_drop]
  have e2 : enc zs wd = (be zs.length 2 ++ (zs.take k).flatMap (be · wd)) ++ (be zs[k] wd ++ (zs.drop (k + 1)).flatMap (be · wd)) := by
    rw [enc]
    conv => lhs; rhs; rw [e]
    rw [List.flatMap_append, List.flatMap_cons, List.append_assoc]
  have hl : (be zs.length 2 ++ (zs.take k).flatMap (be · wd)).length = 2 + k * wd := by
    rw [List.length_append, len_be, flat_len, List.length_take, Nat.min_eq_left (by omega)]
  rw [e2, List.append_assoc, ← hl, List.drop_left, List.append_assoc]
theorem rowL_enc (zs : List Int) (wd : Nat) (more : List UInt8) (h1 : 1 ≤ wd) (h6 : wd ≤ 6) (hl : zs.length ≤ 65535) (ha : ∀ z ∈ zs, mayB z wd = true) : rowL (enc zs wd ++ more) wd = zs := by
  rw [rowL, rowB_enc zs wd more h1 h6 hl, if_pos rfl, rowN_enc zs wd more hl, Int.toNat_natCast]
  unfold rowZ
  apply List.ext_getElem
  · simp
  · intro k hk hk2
    rw [List.getElem_map, List.getElem_range, Int.toNat_natCast, drop_enc zs wd k more hk2]
    exact getL_be _ _ _ (ha _ (List.getElem_mem hk2))
theorem rowM_enc (zs : List Int) (wd : Nat) (more : List UInt8) (h1 : 1 ≤ wd) (h6 : wd ≤ 6) (hl : zs.length ≤ 65535) : rowM (enc zs wd ++ more) wd = (enc zs wd).length := by
  rw [rowM, rowB_enc zs wd more h1 h6 hl, if_pos rfl, rowN_enc zs wd more hl, enc_len]
  simp
/-- what is cut is not read -/
theorem rowB_cut (zs : List Int) (wd p : Nat) (hl : zs.length ≤ 65535) (hp : p < (enc zs wd).length) : rowB ((enc zs wd).take p) wd = false := by
  have hlen : ((enc zs wd).take p).length = p := by rw [List.length_take]; omega
  unfold rowB
  rw [decide_eq_false_iff_not, hlen]
  rintro ⟨h2, _, _, h⟩
  have hn : rowN ((enc zs wd).take p) = zs.length := by
    obtain ⟨r, hr⟩ : ∃ r, (enc zs wd).take p = be zs.length 2 ++ r := by
      refine ⟨(zs.flatMap (be · wd)).take (p - 2), ?_⟩
      rw [enc, List.take_append, len_be, List.take_of_length_le (by rw [len_be]; omega)]
    have h2 : mayB zs.length (2 : Nat) = true := mayB_iff.2 ⟨by decide, by decide, by omega, by
      have : (2 : Int) ^ (8 * ((2 : Nat) : Int)).toNat = 65536 := by decide
      omega⟩
    rw [hr]
    exact getL_be zs.length 2 r h2
  rw [hn, ← Int.natCast_mul] at h
  rw [enc_len] at hp
  omega
theorem cutRow_may (l : List Int) (p : Int) (wd : Nat) (h1 : 1 ≤ wd) (h6 : wd ≤ 6) (hp : p = 2 ^ (8 * wd)) : ∀ z ∈ l.map (· % p), mayB z wd = true := by
  intro z hz
  obtain ⟨x, _, rfl⟩ := List.mem_map.1 hz
  exact (cut_of x p wd h1 h6 hp).2.2.2
theorem cutRow_snoc (l : List Int) (p : Int) (k : Nat) (hk : k < l.length) : (l.take (k + 1)).map (· % p) = (l.take k).map (· % p) ++ [l[k] % p] := by
  rw [List.take_succ_eq_append_getElem hk, List.map_append]; rfl
/-- the loops that make a row: j of the numbers are cut and laid -/
def CutRel (w : World) (K : Nat) (zs : List Int) (p : Int) (s i : Value) (wr : World) : Prop :=
  ∃ (j q : Nat) (A' : Option Addr) (c' : Nat), j ≤ K ∧ s = .slice A' q c' ∧ i = .int .i64 j ∧ Nw w wr ∧ Own wr w.heap.size 3 1 A' q c' (((zs.take j).map (· % p)).map iv)
end Go.Proofs.Ytbgdpcffbihhaaa
