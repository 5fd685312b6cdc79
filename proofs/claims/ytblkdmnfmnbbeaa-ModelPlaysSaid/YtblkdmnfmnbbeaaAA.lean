/- Each step of the program's model and of the reference's, in one form for every block. -/
import Derived.Test.YtblkdmnfmnbbeaaW2
namespace Go.Proofs.Ytblkdmnfmnbbeaa
open Go.RowKit Go.BW

def getM (M : MB) (n : Int) : Option (List UInt8 × Bool) := if n < 0 then none else M[n.toNat]?
theorem getM_none {M : MB} {n : Int} (h : getM M n = none) : Bad M n := by
  unfold getM at h
  unfold Bad
  by_cases h0 : n < 0
  · exact .inl h0
  · rw [if_neg h0] at h
    right
    have := List.getElem?_eq_none_iff.1 h
    omega
theorem getM_some {M : MB} {n : Int} {b : List UInt8 × Bool} (h : getM M n = some b) : ∃ i : Nat, n = i ∧ M[i]? = some b := by
  unfold getM at h
  by_cases h0 : n < 0
  · rw [if_pos h0] at h; cases h
  · rw [if_neg h0] at h
    exact ⟨n.toNat, by omega, h⟩
def wrV (M : MB) (n : Int) : Int := match getM M n with | none => 3 | some _ => 0
def wrM (M : MB) (n : Int) (s : List UInt8) : MB := match getM M n with | none => M | some b => M.set n.toNat (b.1 ++ s, false)
def seV (M : MB) (n : Int) (s : List UInt8) : Bool := match getM M n with | none => false | some b => mayOf b s
def seM (M : MB) (n : Int) (s : List UInt8) : MB := match getM M n with | none => M | some b => M.set n.toNat (settleB b s)
def noV (M : MB) (n : Int) : List UInt8 × Bool := match getM M n with | none => (z64b, false) | some b => nowOf b
section
variable {w : World} {g Z : Nat} {M : MB} {F : List Nat}
theorem Post.of_ret {v : Value} {e : Ending} {w' : World} (h : Rep w g M F Z) (k : Ret v w e w') : Post v g M F Z w e w' := ⟨k.1, F, h.nw k.2, Chg.of_nw k.2, fun _ h => .inl h⟩
theorem RPost.of_ret {v : Value} {e : Ending} {w' : World} (h : RRep w g M F) (k : Ret v w e w') : RPost v g M F w e w' := ⟨k.1, F, h.nw k.2, Chg.of_nw k.2, fun _ h => .inl h⟩
theorem write_x (h : Rep w g M F Z) (hZ : Z ≤ 1000) (n : Int) (s : List UInt8) (hs : s.length = 64) : Calls Try.prog 11 #[pv g, .int .i64 n, sv s] w (Post (.int .i64 (wrV M n)) g (wrM M n s) F (Z + 1) w) := by
  unfold wrV wrM
  cases hg : getM M n with
  | none => exact (write_bad h n (getM_none hg) s hs).mono fun e w' k => (Post.of_ret h k).more (Nat.le_succ Z)
  | some b =>
    obtain ⟨i, rfl, hb⟩ := getM_some hg
    exact write_ok h hZ i b hb s hs
theorem rwrite_x (h : RRep w g M F) (hB : ∀ b ∈ M, b.1.length ≤ 64064) (n : Int) (s : List UInt8) (hs : s.length = 64) : Calls Try.prog 18 #[pv g, .int .i64 n, sv s] w (RPost (.int .i64 (wrV M n)) g (wrM M n s) F w) := by
  unfold wrV wrM
  cases hg : getM M n with
  | none => exact (rwrite_bad h n (getM_none hg) s).mono fun e w' k => RPost.of_ret h k
  | some b =>
    obtain ⟨i, rfl, hb⟩ := getM_some hg
    exact rwrite_in h i b hb (hB b (List.mem_of_getElem? hb)) s hs
theorem settle_x (h : Rep w g M F Z) (hZ : Z ≤ 1000) (n : Int) (s : List UInt8) (hs : s.length = 64) : Calls Try.prog 15 #[pv g, .int .i64 n, sv s] w (Post (.bool (seV M n s)) g (seM M n s) F Z w) := by
  unfold seV seM
  cases hg : getM M n with
  | none => exact settle_bad h n (getM_none hg) s hs
  | some b =>
    obtain ⟨i, rfl, hb⟩ := getM_some hg
    exact settle_in h hZ i b hb s hs
theorem rsettle_x (h : RRep w g M F) (n : Int) (s : List UInt8) (hs : s.length = 64) : Calls Try.prog 21 #[pv g, .int .i64 n, sv s] w (RPost (.bool (seV M n s)) g (seM M n s) F w) := by
  unfold seV seM
  cases hg : getM M n with
  | none => exact rsettle_bad h n (getM_none hg) s hs
  | some b =>
    obtain ⟨i, rfl, hb⟩ := getM_some hg
    exact rsettle_in h i b hb s hs
theorem may_x (h : Rep w g M F Z) (hZ : Z ≤ 1000) (n : Int) (s : List UInt8) (hs : s.length = 64) : Calls Try.prog 14 #[pv g, .int .i64 n, sv s] w (Ret (.bool (seV M n s)) w) := by
  unfold seV
  cases hg : getM M n with
  | none => exact may_bad h n (getM_none hg) s hs
  | some b =>
    obtain ⟨i, rfl, hb⟩ := getM_some hg
    exact may_of h hZ i b hb s hs
theorem rmay_x (h : RRep w g M F) (n : Int) (s : List UInt8) (hs : s.length = 64) : Calls Try.prog 24 #[pv g, .int .i64 n, sv s] w (Ret (.bool (seV M n s)) w) := by
  unfold seV
  cases hg : getM M n with
  | none => exact rmay_bad h n (getM_none hg) s
  | some b =>
    obtain ⟨i, rfl, hb⟩ := getM_some hg
    exact rmay_in h i b hb s hs
theorem now_x (h : Rep w g M F Z) (hZ : Z ≤ 1000) (n : Int) {rb : List UInt8} {ri : Bool} (hr : noV M n = (rb, ri)) : Calls Try.prog 22 #[pv g, .int .i64 n] w (Ret (.tuple #[.agg (rb.map bv).toArray, .bool ri]) w) := by
  show Calls Try.prog 22 #[pv g, .int .i64 n] w (Ret (nv (rb, ri)) w)
  rw [← hr]
  unfold noV
  cases hg : getM M n with
  | none => exact now2_bad h n (getM_none hg)
  | some b =>
    obtain ⟨i, rfl, hb⟩ := getM_some hg
    exact now2_in h hZ i b hb
theorem rnow_x (h : RRep w g M F) (n : Int) {rb : List UInt8} {ri : Bool} (hr : noV M n = (rb, ri)) : Calls Try.prog 23 #[pv g, .int .i64 n] w (Ret (.tuple #[.agg (rb.map bv).toArray, .bool ri]) w) := by
  show Calls Try.prog 23 #[pv g, .int .i64 n] w (Ret (nv (rb, ri)) w)
  rw [← hr]
  unfold noV
  cases hg : getM M n with
  | none => exact rnow_bad h n (getM_none hg)
  | some b =>
    obtain ⟨i, rfl, hb⟩ := getM_some hg
    exact rnow_in h i b hb
theorem now_x_len (h : Rep w g M F Z) (n : Int) : (noV M n).1.length = 64 := by
  unfold noV
  cases hg : getM M n with
  | none => rfl
  | some b =>
    obtain ⟨i, rfl, hb⟩ := getM_some hg
    exact now_len h hb
theorem rep_bound (h : Rep w g M F Z) : ∀ b ∈ M, b.1.length ≤ Z * 64 := by
  intro b hb
  obtain ⟨i, hi, e⟩ := List.getElem_of_mem hb
  obtain ⟨l, c, ho⟩ := h.obj
  obtain ⟨p, r, b', n, cc, A⟩ := h.at ho hi
  have hbb : b' = b := by have := A.elt; rw [List.getElem?_eq_getElem hi, e] at this; injection this with this; exact this.symm
  subst hbb
  have h1 := A.blk.row.len
  have h2 := A.small
  simp at h1
  rw [h1]
  exact Nat.mul_le_mul_right _ h2
end
end Go.Proofs.Ytblkdmnfmnbbeaa

