/- What Parts returns (the program's and the reference's), and the reference's 'number'; for every number. -/
import Derived.Test.YtlfkeohlnhlcoaaDoorU
import Derived.Test.YtlfkeohlnhlcoaaDoorCut
namespace Go.Proofs.YtlfkeohlnhlcoaaDoor
open Go.RowKit Go.BW

/-- how many sectors so many bytes take -/
def partsZ (n : Int) : Int := if n < 0 ∨ n > 2120 then 0 else max 1 ((n + 52) / 53)
theorem partsZ_no {n : Int} (h : n < 0 ∨ 2120 < n) : partsZ n = 0 := by unfold partsZ; rw [if_pos h]
theorem partsZ_yes {n : Int} (h0 : 0 ≤ n) (h1 : n ≤ 2120) : partsZ n = max 1 ((n + 52) / 53) := by unfold partsZ; rw [if_neg (by omega)]
theorem partsZ_bd (n : Int) : 0 ≤ partsZ n ∧ partsZ n ≤ 40 := by unfold partsZ; split <;> omega
theorem parts_any (n : Int) (w : World) : Calls Tryd.prog 14 #[.int .i64 n] w fun e w' => e = .returned (.int .i64 (partsZ n)) ∧ w = w' := by
  by_cases h0 : n < 0
  · have H := Lib.hid (partsZ_no (.inl h0))
    go_enter Tryd.func14, Tryd.ntmps14
    go_wp2
    go_ret
    rw [H.out]; exact ⟨rfl, rfl⟩
  · by_cases h1 : 2120 < n
    · have H := Lib.hid (partsZ_no (.inr h1))
      go_enter Tryd.func14, Tryd.ntmps14
      go_wp2
      go_ret
      rw [H.out]; exact ⟨rfl, rfl⟩
    · have H := Lib.hid (partsZ_yes (n := n) (by omega) (by omega))
      have HM := Lib.hid (show (if (1 : Int) < (n + 52) / 53 then (n + 52) / 53 else 1) = partsZ n by rw [H.out]; split <;> omega)
      obtain ⟨q, hq⟩ : ∃ q : Int, q = partsZ n := ⟨_, rfl⟩
      rw [← hq] at HM
      have e : n + 53 - 1 = n + 52 := by omega
      go_enter Tryd.func14, Tryd.ntmps14
      go_wp2_with (first | (refine wpList_max_int _ _ _ rfl rfl 1 ((n + 52) / 53) rfl rfl HM.out ?_))
      go_ret
      rw [← hq]; exact ⟨rfl, rfl⟩
theorem rparts_any (n : Int) (w : World) : Calls Tryd.prog 15 #[.int .i64 n] w fun e w' => e = .returned (.int .i64 (partsZ n)) ∧ w = w' := by
  by_cases h0 : n < 0
  · have H := Lib.hid (partsZ_no (.inl h0))
    go_enter Tryd.func15, Tryd.ntmps15
    go_wp2
    go_ret
    rw [H.out]; exact ⟨rfl, rfl⟩
  · by_cases h1 : 2120 < n
    · have H := Lib.hid (partsZ_no (.inr h1))
      go_enter Tryd.func15, Tryd.ntmps15
      go_wp2
      go_ret
      rw [H.out]; exact ⟨rfl, rfl⟩
    · have H := Lib.hid (partsZ_yes (n := n) (by omega) (by omega))
      have HM := Lib.hid (show (if (1 : Int) < (n + 52) / 53 then (n + 52) / 53 else 1) = partsZ n by rw [H.out]; split <;> omega)
      obtain ⟨q, hq⟩ : ∃ q : Int, q = partsZ n := ⟨_, rfl⟩
      rw [← hq] at HM
      have e : n + 53 - 1 = n + 52 := by omega
      go_enter Tryd.func15, Tryd.ntmps15
      go_wp2_with (first | (refine wpList_max_int _ _ _ rfl rfl 1 ((n + 52) / 53) rfl rfl HM.out ?_))
      go_ret
      rw [← hq]; exact ⟨rfl, rfl⟩
def numB (n : Int) : Bool := decide (0 ≤ n ∧ n ≤ 4294967295)
theorem number_any (n : Int) (w : World) : Calls Tryd.prog 21 #[.int .i64 n] w fun e w' => e = .returned (.bool (numB n)) ∧ w = w' := by
  by_cases h0 : 0 ≤ n
  · by_cases h1 : n ≤ 4294967295
    · have E := Lib.hid (show numB n = true by unfold numB; simp [h0, h1])
      go_enter Tryd.func21, Tryd.ntmps21
      go_wp2
      go_ret
      rw [E.out]
      exact ⟨rfl, rfl⟩
    · have E := Lib.hid (show numB n = false by unfold numB; simp [h1])
      go_enter Tryd.func21, Tryd.ntmps21
      go_wp2
      go_ret
      rw [E.out]
      exact ⟨rfl, rfl⟩
  · have E := Lib.hid (show numB n = false by unfold numB; simp [h0])
    go_enter Tryd.func21, Tryd.ntmps21
    go_wp2
    go_ret
    rw [E.out]
    exact ⟨rfl, rfl⟩
end Go.Proofs.YtlfkeohlnhlcoaaDoor

