/- The Go function PackRefuses returns true for all two numbers, and only makes new memory; without conditions. -/
import Derived.Test.YtbgdpcffbihhaaaC
namespace Go.Proofs.Ytbgdpcffbihhaaa
open Go.RowKit Go.BW

theorem row3_len (v width : Int) (h : mayB v width = true) : (putRowL [] [0, v, 0] width).length = 2 + 3 * width.toNat := by
  obtain ⟨h1, h6, h0, hv⟩ := mayB_iff.1 h
  have hp : (0 : Int) < 2 ^ (8 * width).toNat := Int.pow_pos (by decide)
  have m0 : mayB 0 width = true := mayB_iff.2 ⟨h1, h6, by omega, hp⟩
  have m3 : mayB 3 2 = true := by unfold mayB; decide
  have hb : putRowB [0, v, 0] width = true := by
    unfold putRowB
    simp [h, m0, h1, h6]
  unfold putRowL
  rw [hb]
  simp only [if_true, rowAcc, List.foldl_cons, List.foldl_nil, putL, h, m0, List.length_cons, List.length_nil, Nat.zero_add, Nat.reduceAdd]
  rw [show (((3 : Nat) : Int)) = 3 from rfl, m3]
  simp only [if_true, List.length_append, len_be, List.length_nil]
  have : ((2 : Int)).toNat = 2 := rfl
  omega
theorem row3_no (v width : Int) (h : mayB v width = false) : putRowL [] [0, v, 0] width = [] :=
  putRowL_no [] [0, v, 0] width 1 (by simp) (by simpa using h)

set_option maxHeartbeats 2000000 in
theorem refuses_yes (v width : Int) (w : World) (hv : v ≤ 9223372036854775807) (h : mayB v width = true) :
    Calls Try.prog 3 #[.int .i64 v, .int .i64 width] w (Ret (.bool true) w) := by
  obtain ⟨h1, h6, h0, hlt⟩ := mayB_iff.1 h
  have hz : (v / 2 ^ (8 * width).toNat != 0) = false := by
    rw [Int.ediv_eq_zero_of_lt h0 hlt]; rfl
  have hr3 := row3_len v width h
  have hp1 : (putL [] v width).length = width.toNat := by simp [putL, h, len_be]
  have hwd : (width.toNat : Int) = width := by omega
  have Hr3 := Lib.hid hr3; clear hr3
  have Hp1 := Lib.hid hp1; clear hp1
  have Hwd := Lib.hid hwd; clear hwd
  have H := Lib.hid h; clear h
  have Hlt := Lib.hid hlt; clear hlt
  go_enter Try.func3, Try.ntmps3
  go_wp2_with (first | ((with_reducible refine (shown_any _).mono ?_); rintro e w1 ⟨rfl, hw1⟩))
  refine (put_any _ _ _ [] _ _ 0 _ Rd.nil (by omega) (by omega) (by omega) hv).mono ?_
  rintro e w2 ⟨A2, n2, c2, rfl, h3, h4⟩
  have hn2 : (n2 : Int) = width := by rw [← own_small h3, Hp1.out, Hwd.out]
  have bn2 : ((n2 : Int) == width) = true := by rw [hn2]; simp
  have Hn2 := Lib.hid hn2; clear hn2
  go_wp2_with fail
  have r2 : Rd (w2.alloc (.cells #[.int .i64 0, .int .i64 v, .int .i64 0] 3)) (w2.heap.size + 1) 1 (some ⟨w2.heap.size, 0, none⟩) 3 ([0, v, 0].map iv) := rd_lit [.int .i64 0, .int .i64 v, .int .i64 0] 3 3 rfl
  refine (putRow_any _ _ _ _ _ _ [] _ _ (w2.heap.size + 1) _ Rd.nil r2 (by simp) (by omega) (by omega) (by omega) (by simp; omega)).mono ?_
  rintro e w3 ⟨A3, n3, c3, rfl, h5, h6⟩
  have hn3 : (n3 : Int) = 2 + 3 * width := by rw [← own_small h5, Hr3.out]; have := Hwd.out; omega
  have bn3 : ((n3 : Int) == 2 + 3 * width) = true := by rw [hn3]; simp
  have Hn3 := Lib.hid hn3; clear hn3
  go_wp2
  go_ret
  exact ⟨rfl, gb_trans (gb_trans (gb_trans hw1 h4) (World.grownBy_alloc w2 _ _)) h6⟩

set_option maxHeartbeats 2000000 in
theorem refuses_no (v width : Int) (w : World) (hv : -9223372036854775808 ≤ v ∧ v ≤ 9223372036854775807) (h : mayB v width = false) :
    Calls Try.prog 3 #[.int .i64 v, .int .i64 width] w (Ret (.bool true) w) := by
  obtain ⟨hv0, hv⟩ := hv
  have hr3 : (putRowL [] [0, v, 0] width).length = 0 := by rw [row3_no v width h]; rfl
  have hp1 : (putL [] v width).length = 0 := by simp [putL, h]
  have Hr3 := Lib.hid hr3; clear hr3
  have Hp1 := Lib.hid hp1; clear hp1
  have hcase : width < 1 ∨ (1 ≤ width ∧ 6 < width) ∨ (1 ≤ width ∧ width ≤ 6 ∧ v < 0) ∨ (1 ≤ width ∧ width ≤ 6 ∧ 0 ≤ v ∧ (v / 2 ^ (8 * width).toNat != 0) = true) := by
    by_cases h1 : width < 1
    · exact .inl h1
    · by_cases h2 : 6 < width
      · exact .inr (.inl ⟨by omega, h2⟩)
      · by_cases h3 : v < 0
        · exact .inr (.inr (.inl ⟨by omega, by omega, h3⟩))
        · refine .inr (.inr (.inr ⟨by omega, by omega, by omega, ?_⟩))
          rw [bne_iff_ne]
          intro e
          have : (v / 2 ^ (8 * width).toNat == 0) = true := by rw [e]; rfl
          rw [shr_zero v _ (by omega)] at this
          rw [mayB_iff.2 ⟨by omega, by omega, by omega, by simpa using this⟩] at h
          cases h
  have H := Lib.hid h; clear h
  rcases hcase with h1 | ⟨h1, h2⟩ | ⟨h1, h2, h3⟩ | ⟨h1, h2, h3, h4⟩
  all_goals
    go_enter Try.func3, Try.ntmps3
    go_wp2_with (first | ((with_reducible refine (shown_any _).mono ?_); rintro e w1 ⟨rfl, hw1⟩))
    refine (put_any _ _ _ [] _ _ 0 _ Rd.nil (by omega) (by omega) (by omega) hv).mono ?_
    rintro e w2 ⟨A2, n2, c2, rfl, h3, h4⟩
    obtain rfl : n2 = 0 := by rw [← own_small h3, Hp1.out]
    go_wp2_with fail
    have r2 : Rd (w2.alloc (.cells #[.int .i64 0, .int .i64 v, .int .i64 0] 3)) (w2.heap.size + 1) 1 (some ⟨w2.heap.size, 0, none⟩) 3 ([0, v, 0].map iv) := rd_lit [.int .i64 0, .int .i64 v, .int .i64 0] 3 3 rfl
    refine (putRow_any _ _ _ _ _ _ [] _ _ (w2.heap.size + 1) _ Rd.nil r2 (by simp) (by omega) (by omega) (by omega) (by simp; omega)).mono ?_
    rintro e w3 ⟨A3, n3, c3, rfl, h5, h6⟩
    obtain rfl : n3 = 0 := by rw [← own_small h5, Hr3.out]
    go_wp2
    go_ret
    exact ⟨rfl, gb_trans (gb_trans (gb_trans hw1 h4) (World.grownBy_alloc w2 _ _)) h6⟩
theorem refuses_any (v width : Int) (w : World) (hv : -9223372036854775808 ≤ v ∧ v ≤ 9223372036854775807) : Calls Try.prog 3 #[.int .i64 v, .int .i64 width] w (Ret (.bool true) w) := by
  cases h : mayB v width with
  | true => exact refuses_yes v width w hv.2 h
  | false => exact refuses_no v width w hv h
theorem refuses_all (v : Int) (hv : -9223372036854775808 ≤ v ∧ v ≤ 9223372036854775807) (width : Int) (_hw : -9223372036854775808 ≤ width ∧ width ≤ 9223372036854775807) (w : World) :
    Calls Try.prog 3 #[.int .i64 v, .int .i64 width] w (Ret (.bool true) w) := refuses_any v width w hv
end Go.Proofs.Ytbgdpcffbihhaaa
