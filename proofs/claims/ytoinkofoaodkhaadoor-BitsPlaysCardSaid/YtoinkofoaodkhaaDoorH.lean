/- Lemmas that the laws of bits share. -/
import Derived.Test.YtoinkofoaodkhaaDoorG
namespace Go.Proofs.YtoinkofoaodkhaaDoor
open Go.RowKit Go.BW Go.BW.Bit

theorem T22 : El Tryd.prog 22 3 (.int .i64 0) 1 8 := El.mk' Tryd.underlying22 (by kernel_rfl) rfl (by decide)
/-- the number of places that a law takes -/
theorem cut_num (n : Int) : ∃ m N : Nat, bits .and .i64 n 65535 = (m : Int) ∧ (m : Int) % 2001 = (N : Int) ∧ N ≤ 2000 := by
  have h := and_mask n 16 (by omega)
  simp at h
  refine ⟨(n % 65536).toNat, (n % 65536).toNat % 2001, by rw [h]; omega, by omega, by omega⟩
theorem new_N (N : Nat) (h : N ≤ 2000) (w : World) : Calls Tryd.prog 10 #[.int .i64 N] w (NewPost (List.replicate N false) w) := by
  have := new_any N w
  rwa [show numN (N : Int) = N from by unfold numN; omega] at this
def SetsRel (w : World) (g N : Nat) (wr : World) : Prop := ∃ bs, BS w wr g bs ∧ bs.length = N
theorem takeF_len (bs : List Bool) (i : Int) : (takeF bs i).2.length = bs.length := by
  unfold takeF
  split
  · rfl
  · split
    · rfl
    · simp
theorem freeF_len (bs : List Bool) (i : Int) : (freeF bs i).2.length = bs.length := by
  unfold freeF
  split
  · rfl
  · split
    · rfl
    · simp
theorem takeF_out {bs : List Bool} {z : Int} (h : z < 0 ∨ (bs.length : Int) ≤ z) : takeF bs z = (3, bs) := by unfold takeF; rw [if_pos (by unfold inB; simp; omega)]
theorem takeF_st {bs : List Bool} {k : Nat} (h : k < bs.length) (hv : bs.getD k false = true) : takeF bs (k : Int) = (9, bs) := by unfold takeF; rw [if_neg (by unfold inB; simp; omega), Int.toNat_natCast, if_pos hv]
theorem takeF_ok {bs : List Bool} {k : Nat} (h : k < bs.length) (hv : bs.getD k false = false) : takeF bs (k : Int) = (0, bs.set k true) := by unfold takeF; rw [if_neg (by unfold inB; simp; omega), Int.toNat_natCast, if_neg (by rw [hv]; decide)]
theorem freeF_out {bs : List Bool} {z : Int} (h : z < 0 ∨ (bs.length : Int) ≤ z) : freeF bs z = (3, bs) := by unfold freeF; rw [if_pos (by unfold inB; simp; omega)]
theorem freeF_st {bs : List Bool} {k : Nat} (h : k < bs.length) (hv : bs.getD k false = false) : freeF bs (k : Int) = (9, bs) := by unfold freeF; rw [if_neg (by unfold inB; simp; omega), Int.toNat_natCast, if_pos hv]
theorem freeF_ok {bs : List Bool} {k : Nat} (h : k < bs.length) (hv : bs.getD k false = true) : freeF bs (k : Int) = (0, bs.set k false) := by unfold freeF; rw [if_neg (by unfold inB; simp; omega), Int.toNat_natCast, if_neg (by rw [hv]; decide)]
theorem BS.has {wb w : World} {g : Nat} {bs : List Bool} (h : BS wb w g bs) (i : Nat) (hi : i < bs.length) : Calls Tryd.prog 15 #[pv g, .int .i64 i] w fun e w' => e = .returned (.bool (bs.getD i false)) ∧ w = w' := by
  have := has_any h.rep (i : Int)
  rwa [show hasB bs (i : Int) = bs.getD i false from by unfold hasB inB; simp [hi]] at this
end Go.Proofs.YtoinkofoaodkhaaDoor

