/- Plain laws on records: what a part says, what is joined; no program in sight. -/
import Derived.Test.YtlfkeohlnhlcoaaDoorG
namespace Go.Proofs.YtlfkeohlnhlcoaaDoor
open Go.RowKit Go.BW

theorem mayB_4 {g : Int} (h0 : 0 ≤ g) (h1 : g ≤ 4294967295) : mayB g 4 = true := by
  rw [mayB_iff]; refine ⟨by omega, by omega, h0, ?_⟩
  have : (2 : Int) ^ ((8 * 4 : Int)).toNat = 4294967296 := by decide
  omega
theorem be_4 {g : Int} (h0 : 0 ≤ g) (h1 : g ≤ 4294967295) : beV (be g 4) = g := by
  rw [beV_be g h0 4]
  have : (256 : Int) ^ 4 = 4294967296 := by decide
  omega
theorem head_eq {g n : Int} (g0 : 0 ≤ g) (g1 : g ≤ 4294967295) (n0 : 0 ≤ n) (n1 : n ≤ 4294967295) (a b c : Nat) : headL g n a b c = be g 4 ++ (be n 4 ++ [UInt8.ofNat a, UInt8.ofNat b, UInt8.ofNat c]) := by
  unfold headL putL
  rw [if_pos (mayB_4 n0 n1), if_pos (mayB_4 g0 g1)]
  rw [List.nil_append, List.append_assoc]; rfl
theorem part_eq {g n : Int} (g0 : 0 ≤ g) (g1 : g ≤ 4294967295) (n0 : 0 ≤ n) (n1 : n ≤ 4294967295) (a b c : Nat) {ps : List UInt8} (hp : ps.length ≤ 53) :
    partL g n a b c ps = be g 4 ++ (be n 4 ++ ([UInt8.ofNat a, UInt8.ofNat b, UInt8.ofNat c] ++ (ps ++ List.replicate (53 - ps.length) 0))) := by
  unfold partL padL
  rw [head_eq g0 g1 n0 n1]
  have hl : (be g 4 ++ (be n 4 ++ [UInt8.ofNat a, UInt8.ofNat b, UInt8.ofNat c]) ++ ps).length = 11 + ps.length := by simp [len_be]; omega
  rw [List.take_of_length_le (by omega), hl, show 64 - (11 + ps.length) = 53 - ps.length by omega]
  simp [List.append_assoc]
theorem be4_list (g : Int) : ∃ x0 x1 x2 x3, be g 4 = [x0, x1, x2, x3] := ⟨_, _, _, _, rfl⟩
theorem someN_zero (m : Nat) : someN (List.replicate m 0) = false := by
  unfold someN
  rw [List.any_eq_false]
  intro x hx
  rw [List.mem_replicate] at hx
  simp [hx.2]
theorem get4 {s : List UInt8} (h : 4 ≤ s.length) : getL s 4 = beV (s.take 4) := by
  unfold getL getB
  rw [if_pos (by simp; omega)]; rfl
theorem drop_11 (x0 x1 x2 x3 y0 y1 y2 y3 a b c : UInt8) (z : List UInt8) : ([x0, x1, x2, x3, y0, y1, y2, y3, a, b, c] ++ z).drop 11 = z := rfl
/-- what a part says -/
structure Says (g n : Int) (a b : Nat) (ps s : List UInt8) : Prop where
  gen : getL s 4 = g
  num : getL (s.drop 4) 4 = n
  part : b8 s = a
  parts : b9 s = b
  len : b10 s = ps.length
  held : heldL s = ps
  rest : someN (s.drop (11 + b10 s)) = false
theorem part_says {g n : Int} (g0 : 0 ≤ g) (g1 : g ≤ 4294967295) (n0 : 0 ≤ n) (n1 : n ≤ 4294967295) {a b : Nat} (ha : a < 256) (hb : b < 256) {ps : List UInt8} (hp : ps.length ≤ 53) : Says g n a b ps (partL g n a b ps.length ps) := by
  have e := part_eq g0 g1 n0 n1 a b ps.length hp
  obtain ⟨x0, x1, x2, x3, hx⟩ := be4_list g
  obtain ⟨y0, y1, y2, y3, hy⟩ := be4_list n
  have bg := be_4 g0 g1
  have bn := be_4 n0 n1
  rw [hx] at e bg
  rw [hy] at e bn
  rw [e]
  have h8 : ∀ z : List UInt8, b8 ([x0, x1, x2, x3] ++ ([y0, y1, y2, y3] ++ ([UInt8.ofNat a, UInt8.ofNat b, UInt8.ofNat ps.length] ++ z))) = a := by
    intro z; show (UInt8.ofNat a).toNat = a; simp; omega
  have h9 : ∀ z : List UInt8, b9 ([x0, x1, x2, x3] ++ ([y0, y1, y2, y3] ++ ([UInt8.ofNat a, UInt8.ofNat b, UInt8.ofNat ps.length] ++ z))) = b := by
    intro z; show (UInt8.ofNat b).toNat = b; simp; omega
  have h10 : ∀ z : List UInt8, b10 ([x0, x1, x2, x3] ++ ([y0, y1, y2, y3] ++ ([UInt8.ofNat a, UInt8.ofNat b, UInt8.ofNat ps.length] ++ z))) = ps.length := by
    intro z; show (UInt8.ofNat ps.length).toNat = ps.length; simp; omega
  refine ⟨?_, ?_, h8 _, h9 _, h10 _, ?_, ?_⟩
  · rw [get4 (by simp)]; exact bg
  · rw [get4 (by simp)]; exact bn
  · unfold heldL; rw [h10]
    show (ps ++ List.replicate (53 - ps.length) 0).take ps.length = ps
    exact List.take_left
  · rw [h10]
    show someN (([x0, x1, x2, x3, y0, y1, y2, y3, UInt8.ofNat a, UInt8.ofNat b, UInt8.ofNat ps.length] ++ (ps ++ List.replicate (53 - ps.length) 0)).drop (11 + ps.length)) = false
    rw [← List.drop_drop, drop_11, List.drop_left]
    exact someN_zero _
/-- the parts of a record -/
theorem pieceL_len {bs : List UInt8} {N i : Nat} (hN : partsZ bs.length = (N : Int)) (hi : i < N) :
    (pieceL bs i).length ≤ 53 ∧ ((i + 1 = N ∨ (pieceL bs i).length = 53) ∧ ¬ (i + 1 = N ∧ 1 < N ∧ (pieceL bs i).length = 0)) ∧ N ≤ 40 := by
  have h := hN
  unfold partsZ at h
  unfold pieceL
  rw [List.length_take, List.length_drop]
  split at h <;> omega
theorem sec_says {g n : Int} (g0 : 0 ≤ g) (g1 : g ≤ 4294967295) (n0 : 0 ≤ n) (n1 : n ≤ 4294967295) {bs : List UInt8} {N i : Nat} (hN : partsZ bs.length = (N : Int)) (hi : i < N) :
    Says g n i N (pieceL bs i) (secI g n N bs i) ∧ tagB (secI g n N bs i) = true := by
  obtain ⟨h1, ⟨h2, h3⟩, h4⟩ := pieceL_len hN hi
  have s := part_says g0 g1 n0 n1 (a := i) (b := N) (by omega) (by omega) h1
  refine ⟨s, ?_⟩
  unfold tagB
  change Says g n i N (pieceL bs i) (secI g n N bs i) at s
  rw [s.rest, s.part, s.parts, s.len]
  unfold okN
  rw [decide_eq_true (by omega)]; rfl
theorem fit_sec {g n : Int} (g0 : 0 ≤ g) (g1 : g ≤ 4294967295) (n0 : 0 ≤ n) (n1 : n ≤ 4294967295) {bs : List UInt8} {N i : Nat} (hN : partsZ bs.length = (N : Int)) (hi : i < N) (g' n' : Int) (i' N' : Nat) :
    fitB g' n' i' N' (secI g n N bs i) = decide (g = g' ∧ n = n' ∧ i = i' ∧ N = N') := by
  obtain ⟨s, t⟩ := sec_says g0 g1 n0 n1 hN hi
  unfold fitB
  rw [t, s.gen, s.num, s.part, s.parts, tagE_part, Bool.eq_iff_iff]
  simp; omega
theorem splitN_at {g n : Int} {N : Nat} {bs : List UInt8} {k : Nat} : ∀ {m : Nat}, k < m → secAt (splitN g n N bs m) k = secI g n N bs k
  | m + 1, h => by
    unfold secAt
    rw [splitN]
    rcases Nat.lt_or_ge k m with h1 | h1
    · rw [List.drop_append_of_le_length (by rw [splitN_len]; omega), List.take_append_of_le_length (by rw [List.length_drop, splitN_len]; omega)]
      exact splitN_at h1
    · have : k = m := by omega
      subst this
      rw [List.drop_left' (splitN_len g n N bs k), List.take_of_length_le (by rw [secI_len]; exact Nat.le_refl _)]
theorem piece_snoc (bs : List UInt8) (k : Nat) : bs.take (k * 53) ++ pieceL bs k = bs.take ((k + 1) * 53) := by
  unfold pieceL; rw [show (k + 1) * 53 = k * 53 + 53 by omega, List.take_add]
theorem joinAcc_split {g n : Int} (g0 : 0 ≤ g) (g1 : g ≤ 4294967295) (n0 : 0 ≤ n) (n1 : n ≤ 4294967295) {bs : List UInt8} {N : Nat} (hN : partsZ bs.length = (N : Int)) :
    ∀ k, k ≤ N → joinAcc g n N (splitN g n N bs N) k = some (bs.take (k * 53))
  | 0, _ => by rw [Nat.zero_mul, List.take_zero]; rfl
  | k + 1, h => by
    have h1 := joinAcc_split g0 g1 n0 n1 hN k (by omega)
    rw [joinAcc, h1]
    simp only
    rw [splitN_at (by omega), if_pos (by rw [fit_sec g0 g1 n0 n1 hN (by omega)]; simp), ((sec_says g0 g1 n0 n1 hN (by omega)).1).held, piece_snoc]
theorem parts_all {len N : Nat} (h : partsZ len = (N : Int)) (hN : N ≠ 0) : len ≤ N * 53 ∧ 0 < N := by
  unfold partsZ at h; split at h <;> omega
theorem join_split {g n : Int} (g0 : 0 ≤ g) (g1 : g ≤ 4294967295) (n0 : 0 ≤ n) (n1 : n ≤ 4294967295) {bs : List UInt8} {N : Nat} (hN : partsZ bs.length = (N : Int)) (h0 : N ≠ 0) :
    joinL g n N (splitN g n N bs N) = bs ∧ joinB g n N (splitN g n N bs N) = true := by
  obtain ⟨h1, h2⟩ := join_some (joinAcc_split g0 g1 n0 n1 hN N (Nat.le_refl _))
  obtain ⟨h3, h4⟩ := parts_all hN h0
  refine ⟨by rw [h1, List.take_of_length_le h3], by rw [h2]; simpa using h4⟩
/-- a sector that does not fit spoils the record -/
theorem join_bad {g n : Int} {N : Nat} {bs : List UInt8} {k : Nat} (hk : k < N) (h : fitB g n k N (secAt bs k) = false) : joinB g n N bs = false := by
  rcases hj : joinAcc g n N bs k with _ | x
  · have := joinAcc_none hj N (by omega)
    unfold joinB; rw [this]; rfl
  · exact (join_none ((joinAcc_step hj).2 h) hk).2
end Go.Proofs.YtlfkeohlnhlcoaaDoor

