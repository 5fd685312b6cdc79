/- The Go function PackGets returns true for every slice of bytes and every number, and only makes new memory; without conditions. -/
import Derived.Test.YtbgdpcffbihhaaaC
import Derived.Test.YtbgdpcffbihhaaaD
import Derived.Test.YtbgdpcffbihhaaaFr
namespace Go.Proofs.Ytbgdpcffbihhaaa
open Go.RowKit Go.BW

set_option maxHeartbeats 4000000 in
theorem gets_walk (w : World) (A : Option Addr) (n c : Nat) (bs : List UInt8) (hin : InB w A n c bs) (width : Int) : 
    Calls Try.prog 7 #[.slice A n c, .int .i64 width] w (Ret (.bool true) w) := by
  obtain ⟨hr, hc, hcm, hl⟩ := hin
  obtain ⟨k, hk⟩ : ∃ k : Nat, (¬ (2000 : Int) < n ∧ k = n) ∨ ((2000 : Int) < n ∧ k = 2000) := by
    by_cases h : n ≤ 2000
    · exact ⟨n, .inl ⟨by omega, rfl⟩⟩
    · exact ⟨2000, .inr ⟨by omega, rfl⟩⟩
  have hkn : k ≤ n := by omega
  have hk2 : k ≤ 2000 := by omega
  have hrk := hr.take (size := 1) hkn
  rw [Nat.mul_one, ← List.map_take] at hrk
  have hlk : (bs.take k).length = k := by rw [List.length_take]; omega
  generalize bs.take k = bk at *
  clear hr hl
  unfold maxLen at hcm
  have Hlk := Lib.hid hlk; clear hlk
  have hsm : k * 1 ≤ 140737488355328 ∧ k ≤ maxLen := by unfold maxLen; omega
  have hkc : k ≤ c := by omega
  have Hs := Lib.hid hsm; clear hsm
  rcases hk with ⟨hk, rfl⟩ | ⟨hk, rfl⟩
  all_goals
    go_enter Try.func7, Try.ntmps7
    go_wp2_with (first | ((with_reducible refine (shown_any _).mono ?_); rintro e w1 ⟨rfl, hw1⟩) | (at_builtin; refine wpList_app_lit T24 _ _ rfl rfl w.heap.size rfl rfl (hrk.nw hw1 (Nat.le_refl _)) hw1.size (bv_one _) Hs.out hw1.size ?_; intro A2 c2 w2 h2 h3) | ((with_reducible refine (get_any _ _ _ _ _ _ _ h2.rd h2.cap.1).mono ?_); rintro e w' ⟨rfl, rfl⟩) | (refine wpList_bytes_str 24 9 5 Try.underlying24 Try.underlying5 Try.underlying9 _ rfl rfl rfl (hrk.nw (gb_trans hw1 h3) (Nat.le_refl _)) ?_) | ((with_reducible refine (rget_any _ _ _).mono ?_); rintro e w' ⟨rfl, rfl⟩))
    refine (row_one _ _ _ _ _ _ _ h2.rd (Nat.le_refl _) h2.cap.1 h2.cap.2).mono ?_
    rintro e w3 ⟨A3, n3, c3, rfl, h4, h5⟩
    have hw3 := gb_trans (gb_trans hw1 h3) h5
    go_wp2_with (first | (refine wpList_bytes_str 24 9 5 Try.underlying24 Try.underlying5 Try.underlying9 _ rfl rfl rfl (hrk.nw hw3 (Nat.le_refl _)) ?_))
    refine (rrow_one _ _ _).mono ?_
    rintro e w4 ⟨A4, n4, c4, rfl, h6, h7⟩
    have hw4 := gb_trans hw3 h7
    have b3 := h4.cap
    have b4 := h6.cap
    unfold maxLen at b3 b4
    have h4' := h4.nw h7
    go_wp2_with fail
    refine (same_any _ _ _ _ _ _ _ _ _ _ (by omega) (by omega) h4'.rd h6.rd).mono ?_
    rintro e w5 ⟨rfl, nd, rfl⟩
    have hs : sameB (rowL bk width) (rowL bk width) = true := by simp [sameB]
    go_wp2_with (first | (refine wpList_bytes_str 24 9 5 Try.underlying24 Try.underlying5 Try.underlying9 _ rfl rfl rfl (Rd.drewN (hrk.nw hw4 (Nat.le_refl _)) nd) ?_) | (refine wpList_bytes_str 24 9 5 Try.underlying24 Try.underlying5 Try.underlying9 _ rfl rfl rfl ((h2.nw (gb_trans h5 h7)).drewN nd).rd ?_))
    go_ret
    exact ⟨rfl, gb_drewN hw4 nd⟩
theorem gets_all (A : Option Addr) (n c : Nat) (bs : List UInt8) {w : World} (hin : InB w A n c bs) (width : Int) (_ : -9223372036854775808 ≤ width ∧ width ≤ 9223372036854775807) :
    Calls Try.prog 7 #[.slice A n c, .int .i64 width] w (Ret (.bool true) w) := gets_walk w A n c bs hin width
end Go.Proofs.Ytbgdpcffbihhaaa
