/- What the reference's Same returns, for all slices of at most a million sectors. -/
import Derived.Test.YtlfkeohlnhlcoaaDoorA
namespace Go.Proofs.YtlfkeohlnhlcoaaDoor
open Go.RowKit Go.BW

theorem chunk_eq (xs ys : List UInt8) (k : Nat) (h : xs.take (k * 64) = ys.take (k * 64)) (he : (xs.drop (k * 64)).take 64 = (ys.drop (k * 64)).take 64) : xs.take ((k + 1) * 64) = ys.take ((k + 1) * 64) := by
  rw [show (k + 1) * 64 = k * 64 + 64 by omega, List.take_add, List.take_add, h, he]
def sameS (xs ys : List UInt8) : Bool := decide (xs = ys)
set_option maxHeartbeats 1000000 in
theorem sames_any (A A' : Option Addr) (n m c c' : Nat) (xs ys : List UInt8) (B : Nat) (w : World) (hm : n ≤ 1000000) (hm' : m ≤ 1000000)
    (hx : Rd w B 64 A n (xs.map bv)) (hy : Rd w B 64 A' m (ys.map bv)) :
    Calls Tryd.prog 12 #[.slice A n c, .slice A' m c'] w fun e w' => e = .returned (.bool (sameS xs ys)) ∧ ∃ n, w' = w.drewN n := by
  have hlx : xs.length = n * 64 := by have := hx.1; simpa using this
  have hly : ys.length = m * 64 := by have := hy.1; simpa using this
  by_cases hl : n = m
  · subst hl
    have Hlx := Lib.hid hlx; clear hlx
    have Hly := Lib.hid hly; clear hly
    go_enter Tryd.func12, Tryd.ntmps12
    go_wp2
    go_loopw [5] (fun i wr => ∃ k : Nat, k ≤ n ∧ i = .int .i64 k ∧ Hid (xs.take (k * 64) = ys.take (k * 64)) ∧ ∃ n, wr = w.drewN n) (fun i _ => n - (intOf i).toNat)
    case atStart => exact ⟨0, Nat.zero_le _, rfl, by rw [Nat.zero_mul]; rfl, 0, rfl⟩
    case round =>
      obtain ⟨k, hk, rfl, ht, nd, rfl⟩ := hrel
      by_cases hlt : k < n
      · obtain ⟨b, off, rfl, _, hl1, hcu⟩ := (hx.drewN nd).atN hlt (by decide)
        obtain ⟨b', off', rfl, _, hl2, hcu'⟩ := (hy.drewN nd).atN hlt (by decide)
        rw [← List.map_drop, ← List.map_take] at hcu hcu' hl1 hl2
        obtain ⟨xk, hxk⟩ : ∃ xk, (xs.drop (k * 64)).take 64 = xk := ⟨_, rfl⟩
        obtain ⟨yk, hyk⟩ : ∃ yk, (ys.drop (k * 64)).take 64 = yk := ⟨_, rfl⟩
        rw [hxk] at hcu hl1
        rw [hyk] at hcu' hl2
        have Hxk := Lib.hid hxk; clear hxk
        have Hyk := Lib.hid hyk; clear hyk
        have hlt' : (k : Int) < (n : Int) := by omega
        have HC := Lib.hid hcu; clear hcu
        have HC' := Lib.hid hcu'; clear hcu'
        have HL1 := Lib.hid hl1; clear hl1
        have HL2 := Lib.hid hl2; clear hl2
        by_cases he : xk = yk
        · have He := Lib.hid he; clear he
          go_wp2
          refine wp_region_quiet_lit (by kernel_rfl) (by kernel_rfl) ?_
          iterate 3 quiet_step (fail)
          refine wpQuiet_load_agg 35 _ rfl rfl rfl _ HC.out _ Tryd.underlying35 rfl (by rw [HL1.out]; kernel_rfl) ?_
          iterate 3 quiet_step (fail)
          refine wpQuiet_load_agg 35 _ rfl rfl rfl _ HC'.out _ Tryd.underlying35 rfl (by rw [HL2.out]; kernel_rfl) ?_
          refine wpQuiet_neq_arr 35 35 5 64 _ _ rfl rfl _ _ Tryd.underlying35 Tryd.underlying5 (by kernel_rfl) (by kernel_rfl) rfl rfl (by have h := HL1.out; rwa [List.length_map] at h) (by have h := HL2.out; rwa [List.length_map] at h) false (by simpa using He.out) ?_
          refine wpQuiet_nil ?_
          rintro w' ⟨nq, rfl⟩
          go_wp2
          go_roundw
          case rel => exact ⟨k+1, by omega, by go_num, chunk_eq _ _ _ ht.out (by rw [Hxk.out, Hyk.out]; exact He.out), nd + nq, rfl⟩
          case measure => simp [intOf]; omega
        · have hno : sameS xs ys = false := by
            unfold sameS
            rw [decide_eq_false_iff_not]
            intro e
            apply he
            rw [← Hxk.out, ← Hyk.out, e]
          have He := Lib.hid he; clear he
          have Hno := Lib.hid hno; clear hno
          go_wp2
          refine wp_region_quiet_lit (by kernel_rfl) (by kernel_rfl) ?_
          iterate 3 quiet_step (fail)
          refine wpQuiet_load_agg 35 _ rfl rfl rfl _ HC.out _ Tryd.underlying35 rfl (by rw [HL1.out]; kernel_rfl) ?_
          iterate 3 quiet_step (fail)
          refine wpQuiet_load_agg 35 _ rfl rfl rfl _ HC'.out _ Tryd.underlying35 rfl (by rw [HL2.out]; kernel_rfl) ?_
          refine wpQuiet_neq_arr 35 35 5 64 _ _ rfl rfl _ _ Tryd.underlying35 Tryd.underlying5 (by kernel_rfl) (by kernel_rfl) rfl rfl (by have h := HL1.out; rwa [List.length_map] at h) (by have h := HL2.out; rwa [List.length_map] at h) true (by simpa using He.out) ?_
          refine wpQuiet_nil ?_
          rintro w' ⟨nq, rfl⟩
          go_wp2
          go_ret
          exact ⟨by rw [Hno.out]; rfl, nd + nq, rfl⟩
      · have hyes : sameS xs ys = true := by
          have : k = n := by omega
          unfold sameS
          rw [decide_eq_true_iff]
          have h := ht.out
          rwa [List.take_of_length_le (by rw [Hlx.out]; omega), List.take_of_length_le (by rw [Hly.out]; omega)] at h
        have Hyes := Lib.hid hyes; clear hyes
        go_wp2
        go_ret
        exact ⟨by rw [Hyes.out]; rfl, _, rfl⟩
  · have hno : sameS xs ys = false := by
      unfold sameS
      rw [decide_eq_false_iff_not]
      rintro rfl
      omega
    have hne : ((n : Int) != (m : Int)) = true := by rw [bne_iff_ne]; omega
    have Hno := Lib.hid hno; clear hno
    have Hl := Lib.hid hl; clear hl
    clear hlx hly
    go_enter Tryd.func12, Tryd.ntmps12
    go_wp2
    go_ret
    exact ⟨by rw [Hno.out]; rfl, 0, rfl⟩
end Go.Proofs.YtlfkeohlnhlcoaaDoor

