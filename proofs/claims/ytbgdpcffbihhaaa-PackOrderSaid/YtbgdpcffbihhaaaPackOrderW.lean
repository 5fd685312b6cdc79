/- The Go function PackOrder returns true for all three numbers, and only makes new memory; without conditions. -/
import Derived.Test.YtbgdpcffbihhaaaC
namespace Go.Proofs.Ytbgdpcffbihhaaa
open Go.RowKit Go.BW

theorem order_law (a b p : Int) (wd : Nat) (hp : p = 2 ^ (8 * wd)) (ha : 0 ≤ a ∧ a < p) (hb : 0 ≤ b ∧ b < p) :
    Op.bytesLess (be a wd) (be b wd) = decide (a < b) ∧ (be a wd == be b wd) = (a == b) := by
  have e : (256 : Int) ^ wd = p := by rw [hp, Int.pow_mul]; rfl
  have ea : beV (be a wd) = a := by rw [beV_be a ha.1, e]; exact Int.emod_eq_of_lt ha.1 ha.2
  have eb : beV (be b wd) = b := by rw [beV_be b hb.1, e]; exact Int.emod_eq_of_lt hb.1 hb.2
  refine ⟨by rw [bytesLess_beV _ _ (by rw [len_be, len_be]), ea, eb], ?_⟩
  rw [Bool.eq_iff_iff, beq_iff_eq, beq_iff_eq]
  constructor
  · intro h; rw [← ea, h, eb]
  · intro h; rw [h]

set_option maxHeartbeats 2000000 in
theorem order_walk (v v' width : Int) (w : World) :
    Calls Try.prog 4 #[.int .i64 v, .int .i64 v', .int .i64 width] w (Ret (.bool true) w) := by
  obtain ⟨m, wd, hm, hm0, hm1, hwd, h1, h6⟩ := wid_of width
  obtain ⟨p, hp, hp0, hp1, hpp⟩ := mask_of wd h1 h6
  obtain ⟨c1, c2, c3, c4⟩ := cut_of v p wd h1 h6 hpp.out
  obtain ⟨d1, d2, d3, d4⟩ := cut_of v' p wd h1 h6 hpp.out
  obtain ⟨a, ha⟩ : ∃ a, v % p = a := ⟨_, rfl⟩
  obtain ⟨b, hb⟩ : ∃ b, v' % p = b := ⟨_, rfl⟩
  rw [ha] at c1 c2 c3 c4
  rw [hb] at d1 d2 d3 d4
  obtain ⟨l1, l2⟩ := order_law a b p wd hpp.out ⟨c2, c3⟩ ⟨d2, d3⟩
  have ea : putL [] a wd = be a wd := by simp [putL, c4]
  have eb : putL [] b wd = be b wd := by simp [putL, d4]
  have la := len_be a wd
  clear ha hb
  have C4 := Lib.hid c4; clear c4
  have D4 := Lib.hid d4; clear d4
  generalize be a wd = xa at *
  generalize be b wd = xb at *
  have La := Lib.hid la; clear la
  go_enter Try.func4, Try.ntmps4
  go_wp2_with (first | ((with_reducible refine (shown_any _).mono ?_); rintro e w1 ⟨rfl, hw1⟩))
  refine (put_any _ _ _ [] _ _ 0 _ Rd.nil (by omega) (by omega) (by omega) (by omega)).mono ?_
  rw [ea]
  rintro e w2 ⟨A2, n2, c2', rfl, h3, h4⟩
  go_wp2_with (first | refine wpList_bytes_str 24 9 5 Try.underlying24 Try.underlying5 Try.underlying9 _ rfl rfl rfl h3.rd ?_)
  refine (put_any _ _ _ [] _ _ 0 _ Rd.nil (by omega) (by omega) (by omega) (by omega)).mono ?_
  rw [eb]
  rintro e w3 ⟨A3, n3, c3', rfl, h5, h6⟩
  have bl : ((xa.length : Int) == (wd : Int)) = true := by rw [La.out]; simp
  go_wp2_with (first | refine wpList_bytes_str 24 9 5 Try.underlying24 Try.underlying5 Try.underlying9 _ rfl rfl rfl h5.rd ?_)
  go_ret
  exact ⟨rfl, gb_trans (gb_trans hw1 h4) h6⟩
theorem order_all (v : Int) (_ : -9223372036854775808 ≤ v ∧ v ≤ 9223372036854775807) (v' : Int) (_ : -9223372036854775808 ≤ v' ∧ v' ≤ 9223372036854775807) (width : Int) (_ : -9223372036854775808 ≤ width ∧ width ≤ 9223372036854775807) (w : World) :
    Calls Try.prog 4 #[.int .i64 v, .int .i64 v', .int .i64 width] w (Ret (.bool true) w) := order_walk v v' width w
end Go.Proofs.Ytbgdpcffbihhaaa
