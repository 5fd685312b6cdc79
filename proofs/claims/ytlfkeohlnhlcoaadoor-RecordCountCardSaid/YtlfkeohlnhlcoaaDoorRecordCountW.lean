/- The walk of RecordCount: true for every number. -/
import Derived.Test.YtlfkeohlnhlcoaaDoorG
namespace Go.Proofs.YtlfkeohlnhlcoaaDoor
open Go.RowKit Go.BW
theorem count_walk (n : Int) (_hn : -9223372036854775808 ≤ n ∧ n ≤ 9223372036854775807) (w : World) : Calls Tryd.prog 9 #[.int .i64 n] w fun e w' => e = .returned (.bool true) ∧ Nw w w' := by
  have HS := Lib.hid (fun w' => shown_any w')
  have HP := Lib.hid (fun w' => parts_any n w')
  unfold Ret at HS
  have h0 := @partsZ_no n
  have h1 := @partsZ_yes n
  obtain ⟨k, hk⟩ : ∃ k, partsZ n = k := ⟨_, rfl⟩
  rw [hk] at HP h0 h1
  clear hk
  rcases (show n < 0 ∨ (0 ≤ n ∧ 2120 < n) ∨ (0 ≤ n ∧ n ≤ 2120) from by omega) with h | ⟨h, h2⟩ | ⟨h, h2⟩
  · have hk := h0 (.inl h)
    have b1 : (k == 0) = true := by simpa using hk
    clear h0 h1 hk
    go_enter Tryd.func9, Tryd.ntmps9
    go_wp2_with (first | ((with_reducible refine (HP.out _).mono ?_); rintro e w' ⟨rfl, rfl⟩) | ((with_reducible refine (HS.out _).mono ?_); rintro e w' ⟨rfl, n1⟩))
    go_ret
    exact ⟨rfl, n1⟩
  · have hk := h0 (.inr h2)
    have b1 : (k == 0) = true := by simpa using hk
    clear h0 h1 hk
    go_enter Tryd.func9, Tryd.ntmps9
    go_wp2_with (first | ((with_reducible refine (HP.out _).mono ?_); rintro e w' ⟨rfl, rfl⟩) | ((with_reducible refine (HS.out _).mono ?_); rintro e w' ⟨rfl, n1⟩))
    go_ret
    exact ⟨rfl, n1⟩
  · have hk := h1 h h2
    have b1 : 1 ≤ k := by omega
    have b2 : n ≤ 53 * k := by omega
    have b4 : k ≤ 40 := by omega
    rcases (show k = 1 ∨ (k ≠ 1 ∧ 53 * (k - 1) < n) from by omega) with b3 | ⟨b3, b5⟩
    · have b6 : (k == 1) = true := by simpa using b3
      clear h0 h1 hk b3
      go_enter Tryd.func9, Tryd.ntmps9
      go_wp2_with (first | ((with_reducible refine (HP.out _).mono ?_); rintro e w' ⟨rfl, rfl⟩) | ((with_reducible refine (HS.out _).mono ?_); rintro e w' ⟨rfl, n1⟩))
      go_ret
      exact ⟨rfl, n1⟩
    · have b6 : (k == 1) = false := by simpa using b3
      clear h0 h1 hk b3
      go_enter Tryd.func9, Tryd.ntmps9
      go_wp2_with (first | ((with_reducible refine (HP.out _).mono ?_); rintro e w' ⟨rfl, rfl⟩) | ((with_reducible refine (HS.out _).mono ?_); rintro e w' ⟨rfl, n1⟩))
      go_ret
      exact ⟨rfl, n1⟩
end Go.Proofs.YtlfkeohlnhlcoaaDoor

