/- What the reference's New, Fall and Now do. -/
import Derived.Test.YtblkdmnfmnbbeaaQ
namespace Go.Proofs.Ytblkdmnfmnbbeaa
open Go.RowKit Go.BW

def rz : RB := ⟨z64b, none, 0, 0, [], false, rfl⟩
theorem T39 : El Try.prog 39 61 (rv rz) 66 96 := El.mk' Try.underlying39 (by kernel_rfl) (by kernel_rfl) (by decide)
theorem fl_rep_get {α : Type} {enc : α → List Value} {size : Nat} (x : α) (hx : (enc x).length = size) : ∀ (n j : Nat), j < n * size → (fl enc (List.replicate n x))[j]? = (enc x)[j % size]?
  | 0, j, h => by omega
  | n + 1, j, h => by
    rw [List.replicate_succ, fl_cons]
    rcases Nat.lt_or_ge j size with h1 | h1
    · rw [List.getElem?_append_left (by omega), Nat.mod_eq_of_lt h1]
    · rw [List.getElem?_append_right (by omega), hx, fl_rep_get x hx n (j - size) (by rw [Nat.succ_mul] at h; omega), Nat.mod_eq_sub_mod h1]
theorem made_flat {α : Type} {enc : α → List Value} {size : Nat} (x : α) (hx : (enc x).length = size) (hs : 0 < size) (n : Nat) : (madeCells (enc x).toArray (n * size)).toList = fl enc (List.replicate n x) := by
  apply List.ext_getElem?
  intro j
  rcases Nat.lt_or_ge j (n * size) with h | h
  · rw [fl_rep_get x hx n j h]
    have hm : j % size < size := Nat.mod_lt _ hs
    simp [madeCells, h, hx]
    rw [List.getElem?_eq_getElem (by omega)]
    simp [hm, hx]
  · have hl : (fl enc (List.replicate n x)).length = n * size := by
      clear h
      induction n with
      | zero => simp [fl]
      | succ n ih => rw [List.replicate_succ, fl_cons, List.length_append, ih, hx, Nat.succ_mul]; omega
    have hm : (madeCells (enc x).toArray (n * size)).toList.length = n * size := by rw [Array.length_toList, size_madeCells]
    rw [List.getElem?_eq_none (by omega), List.getElem?_eq_none (by omega)]
def RNewPost (N : Nat) (w : World) (e : Ending) (w' : World) : Prop := ∃ g F, e = .returned (pv g) ∧ RRep w' g (List.replicate N (z64b, false)) F ∧ (∀ x ∈ F, w.heap.size ≤ x) ∧ Nw w w'
set_option maxHeartbeats 1000000 in
theorem rnew_any (n : Int) (w : World) : Calls Try.prog 17 #[.int .i64 n] w (RNewPost (numN n) w) := by
  obtain ⟨N, hN⟩ : ∃ N, numN n = N := ⟨_, rfl⟩
  have hb := numN_b n
  rw [hN] at hb ⊢
  obtain ⟨hb1, hb2⟩ := hb
  rcases (show (n ≤ 1 ∧ ¬ 96 < n ∧ (1 : Int) = N) ∨ (96 < n ∧ (96 : Int) = N) ∨ (n = N ∧ 1 < n ∧ n ≤ 96) from by unfold numN at hN; omega) with ⟨h1, h2, e⟩ | ⟨h1, e⟩ | ⟨e, h1, h2⟩
  all_goals
    clear hN
    have EV := Lib.hid e; clear e
    go_enter Try.func17, Try.ntmps17
    go_wp2_with (refine wpList_make T39 _ _ rfl rfl 0 .i64 .i64 _ _ N rfl rfl EV.out EV.out (by unfold maxLen; omega) (Nat.zero_le _) ?_; intro l w1 o1 n1 h1; have O1 := Lib.hid o1; have N1 := Lib.hid n1; have H1 := Lib.hid h1; clear o1 n1 h1)
    go_ret
    have hm : (madeCells (rv rz).cells (N * 66)).toList = fl rc (List.replicate N rz) := made_flat rz (rc_len rz) (by omega) N
    have hlt := own_lt O1.out
    refine ⟨w1.heap.size, [w1.heap.size, l], rfl, ⟨l, N, List.replicate N rz, ⟨?_, ?_, fun x hx => ?_⟩, ?_, ?_⟩, fun x hx => ?_, gb_alloc N1.out _⟩
    · rw [List.length_replicate]; exact Obj1.new w1 _ _
    · rw [List.length_replicate, ← hm]; exact O1.out.nw (World.grownBy_alloc w1 _ none)
    · have := (List.mem_replicate.1 hx).2
      subst this
      exact ⟨Own.nil, Nat.zero_le _⟩
    · rw [List.map_replicate]; rfl
    · have : (List.replicate N rz).flatMap blkOf = [] := by
        rw [List.flatMap_eq_nil_iff]
        intro x hx
        have := (List.mem_replicate.1 hx).2
        subst this
        rfl
      rw [this]
    · simp at hx
      rcases hx with rfl | rfl
      · exact N1.out.size
      · exact H1.out
end Go.Proofs.Ytblkdmnfmnbbeaa

