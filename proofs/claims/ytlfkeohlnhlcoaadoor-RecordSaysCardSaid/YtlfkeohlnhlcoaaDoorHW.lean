/- Small laws that the walks of the statements share. -/
import Derived.Test.YtlfkeohlnhlcoaaDoorPL8
import Derived.Test.YtlfkeohlnhlcoaaDoorStr
namespace Go.Proofs.YtlfkeohlnhlcoaaDoor
open Go.RowKit Go.BW
/-- the lesser of a length and a bound -/
theorem cut_len (n M : Nat) : ∃ k : Nat, (if (M : Int) < (n : Int) then (M : Int) else n) = (k : Int) ∧ k ≤ n ∧ k ≤ M := by
  rcases Nat.lt_or_ge M n with h | h
  · exact ⟨M, by rw [if_pos (by omega)], by omega, Nat.le_refl _⟩
  · exact ⟨n, by rw [if_neg (by omega)], Nat.le_refl _, h⟩
theorem splitL_len (g n : Int) (bs : List UInt8) : (splitL g n bs).length ≤ 2560 := by
  unfold splitL; split
  · rw [splitN_len]; have := partsZ_bd bs.length; omega
  · simp
theorem and_32 (x : Int) : ∃ g : Int, bits .and .i64 x 4294967295 = g ∧ 0 ≤ g ∧ g ≤ 4294967295 := by
  have h := and_mask x 32 (by decide)
  have e1 : (2 : Int) ^ 32 - 1 = 4294967295 := by decide
  have e2 : (2 : Int) ^ 32 = 4294967296 := by decide
  rw [e1, e2] at h
  exact ⟨_, h, by omega, by omega⟩
theorem parts_some {k : Nat} (h : k ≤ 2120) : ∃ N : Nat, partsZ k = (N : Int) ∧ N ≠ 0 ∧ N ≤ 40 := by
  have h1 := partsZ_yes (n := (k : Int)) (by omega) (by omega)
  exact ⟨(partsZ k).toNat, by omega, by omega, by omega⟩
theorem split_good {g n : Int} (g0 : 0 ≤ g) (g1 : g ≤ 4294967295) (n0 : 0 ≤ n) (n1 : n ≤ 4294967295) {bs : List UInt8} {N : Nat} (hN : partsZ bs.length = (N : Int)) (h0 : N ≠ 0) : splitL g n bs = splitN g n N bs N :=
  splitL_yes (by rw [splitB_iff, hN]; exact ⟨by omega, ⟨g0, g1⟩, ⟨n0, n1⟩⟩) hN
/-- one sector written over -/
def setSec (bs : List UInt8) (i : Nat) (s : List UInt8) : List UInt8 := bs.take (i * 64) ++ (s ++ bs.drop (i * 64 + 64))
theorem setSec_splice {bs s : List UInt8} {i : Nat} (hs : s.length = 64) : splice (bs.map bv) (i * 64) (s.map bv) = (setSec bs i s).map bv := by
  unfold splice setSec; simp [hs]
theorem setSec_at {bs s : List UInt8} {i : Nat} (hs : s.length = 64) (hi : i * 64 ≤ bs.length) : secAt (setSec bs i s) i = s := by
  unfold secAt setSec
  rw [List.drop_left' (by rw [List.length_take]; omega), List.take_append_of_le_length (by omega), List.take_of_length_le (by omega)]
theorem setSec_len {bs s : List UInt8} {i : Nat} (hs : s.length = 64) (hi : i * 64 + 64 ≤ bs.length) : (setSec bs i s).length = bs.length := by
  unfold setSec; simp [hs]; omega
theorem setSec_other {bs s : List UInt8} {i k : Nat} (hs : s.length = 64) (hi : i * 64 + 64 ≤ bs.length) (h : k ≠ i) : secAt (setSec bs i s) k = secAt bs k := by
  unfold secAt
  apply List.ext_getElem?
  intro j
  rw [List.getElem?_take, List.getElem?_take]
  split
  · next hj =>
    rw [List.getElem?_drop, List.getElem?_drop]
    unfold setSec
    rcases Nat.lt_or_ge k i with h1 | h1
    · rw [List.getElem?_append_left (by rw [List.length_take]; omega), List.getElem?_take, if_pos (by omega)]
    · rw [List.getElem?_append_right (by rw [List.length_take]; omega), List.getElem?_append_right (by rw [List.length_take]; omega), List.getElem?_drop, List.length_take, hs]
      congr 1; omega
  · rfl
theorem and_255 (x : Int) : ∃ m : Nat, bits .and .i64 x 255 = (m : Int) ∧ m ≤ 255 := by
  have h := and_mask x 8 (by decide)
  have e1 : (2 : Int) ^ 8 - 1 = 255 := by decide
  have e2 : (2 : Int) ^ 8 = 256 := by decide
  rw [e1, e2] at h
  exact ⟨(x % 256).toNat, by omega, by omega⟩
section
variable {P : Program} {ops : Array Oper} {S : World → Prop} {R : Act → Prop} {rest : List Oper} {o : Oper} {a : Act}
theorem wpYield_min_int (ts : Array TypeId) (x y : Operand) (hop : o.op = .call { callee := .builtin .min, args := #[x, y], argTypes := ts }) (hw : Region.wanted o (yielded ops a.tmps) = true) (m n : Int) (hx : a.eval x = .int .i64 m) (hy : a.eval y = .int .i64 n) {k : Int} (hk : (if n < m then n else m) = k)
    (hK : wpYield P ops S R rest (a.put o.dst (.int .i64 k))) : wpYield P ops S R (o :: rest) a := by
  subst hk; exact wpYield_val hw (fun _ _ => run_exec_min_int ts x y hop m n hx hy) hK
theorem wpYield_slice_lh (t e : TypeId) (ht : P.underlying t = some (.slice e)) (size : Nat) (hi : (P.info? e).map (·.size) = some size) (x l h : Operand) (hop : o.op = .slice t x (some l) (some h) none) (hw : Region.wanted o (yielded ops a.tmps) = true) (A : Option Addr) (n c : Nat) (kl kh : Nat) (vl vh : Int) (hx : a.eval x = .slice A n c) (hl : a.eval l = .int .i64 vl) (hh : a.eval h = .int .i64 vh)
    (el : vl = kl) (eh : vh = kh) (h1 : kl ≤ kh) (h2 : kh ≤ c) {A' : Option Addr} {m c' : Nat} (hA : cutA A c kl size = A') (hm : kh - kl = m) (hc' : c - kl = c') (hK : wpYield P ops S R rest (a.put o.dst (.slice A' m c'))) : wpYield P ops S R (o :: rest) a := by
  subst hA; subst hm; subst el; subst eh; subst hc'
  refine wpYield_val hw (fun w' _ => ?_) hK
  have := run_slice_lhN t e ht hi (w := w') A n c kl kh h1 h2
  unfold execOp
  simp [hop, hx, hl, hh, this]
end
end Go.Proofs.YtlfkeohlnhlcoaaDoor

