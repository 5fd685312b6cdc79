/- What the reference's most and may return. -/
import Derived.Test.YtlfkeohlnhlcoaaDoorA
namespace Go.Proofs.YtlfkeohlnhlcoaaDoor
open Go.RowKit Go.BW

theorem most_any (wd : Nat) (h6 : wd ≤ 6) (w : World) :
    Calls Tryd.prog 35 #[.int .i64 wd] w fun e w' => e = .returned (.int .i64 (256 ^ wd - 1)) ∧ w = w' := by
  go_enter Tryd.func35, Tryd.ntmps35
  go_wp2
  go_loopw [3, 4] (fun m i wr => ∃ k : Nat, k ≤ wd ∧ i = .int .i64 k ∧ (∃ p : Int, m = .int .i64 p ∧ Hid (p = 256 ^ k) ∧ 1 ≤ p ∧ p ≤ 281474976710656) ∧ wr = w) (fun _ i _ => wd - (intOf i).toNat)
  case atStart => exact ⟨0, Nat.zero_le _, rfl, ⟨1, rfl, Lib.hid (by simp), by decide, by decide⟩, rfl⟩
  case round =>
    obtain ⟨k, hk, rfl, ⟨p, rfl, hp, hp1, hp2⟩, rfl⟩ := hrel
    by_cases hlt : k < wd
    · have hlt' : (k : Int) < (wd : Int) := by omega
      have hb : p ≤ 1099511627776 := by
        rw [hp.out]
        rcases (by omega : k = 0 ∨ k = 1 ∨ k = 2 ∨ k = 3 ∨ k = 4 ∨ k = 5) with h | h | h | h | h | h <;> subst h <;> decide
      go_wp2
      go_roundw
      case rel => exact ⟨k + 1, by omega, by go_num, ⟨256 * p, by go_num, Lib.hid (by rw [hp.out, Int.pow_succ, Int.mul_comm]), by omega, by omega⟩, trivial⟩
      case measure => simp [intOf]; omega
    · have e : k = wd := by omega
      have E := Lib.hid (show (256 : Int) ^ wd = p by rw [hp.out, e]); clear e
      go_wp2
      go_ret
      exact ⟨by rw [E.out]; rfl, rfl⟩

theorem mayR {v : Int} {wd : Nat} (h1 : 1 ≤ wd) (h6 : wd ≤ 6) (h0 : 0 ≤ v) : mayB v wd = decide (v ≤ 256 ^ wd - 1) := by
  rw [Bool.eq_iff_iff, mayB_iff, decide_eq_true_eq]
  have e : (2 : Int) ^ (8 * (wd : Int)).toNat = 256 ^ wd := by
    rw [show (8 * (wd : Int)).toNat = 8 * wd by omega, Int.pow_mul]; rfl
  rw [e]
  constructor
  · rintro ⟨_, _, _, h⟩; omega
  · intro h; exact ⟨by omega, by omega, h0, by omega⟩
set_option maxHeartbeats 400000 in
theorem rmay_any (v width : Int) (w : World) :
    Calls Tryd.prog 30 #[.int .i64 v, .int .i64 width] w fun e w' => e = .returned (.bool (mayB v width)) ∧ w = w' := by
  by_cases h1 : 1 ≤ width
  · by_cases h6 : width ≤ 6
    · by_cases h0 : 0 ≤ v
      · obtain ⟨wd, rfl⟩ : ∃ wd : Nat, width = wd := ⟨width.toNat, by omega⟩
        have E := Lib.hid (mayR (v := v) (wd := wd) (by omega) (by omega) h0)
        have HM := Lib.hid (fun w => most_any wd (by omega) w)
        obtain ⟨q, hq⟩ : ∃ q : Int, q = 256 ^ wd - 1 := ⟨_, rfl⟩
        have Hq := Lib.hid hq; clear hq
        go_enter Tryd.func30, Tryd.ntmps30
        go_wp2_with (first
          | (refine (HM.out _).mono ?_
             rintro _ _ ⟨rfl, rfl⟩
             rw [← Hq.out]))
        go_ret
        rw [E.out, ← Hq.out]
        exact ⟨rfl, rfl⟩
      · have E := Lib.hid (show mayB v width = false from by unfold mayB; simp [h0])
        go_enter Tryd.func30, Tryd.ntmps30
        go_wp2
        go_ret
        rw [E.out]
        exact ⟨rfl, rfl⟩
    · have E := Lib.hid (show mayB v width = false from by unfold mayB; simp [h6])
      go_enter Tryd.func30, Tryd.ntmps30
      go_wp2
      go_ret
      rw [E.out]
      exact ⟨rfl, rfl⟩
  · have E := Lib.hid (show mayB v width = false from by unfold mayB; simp [h1])
    go_enter Tryd.func30, Tryd.ntmps30
    go_wp2
    go_ret
    rw [E.out]
    exact ⟨rfl, rfl⟩
end Go.Proofs.YtlfkeohlnhlcoaaDoor

