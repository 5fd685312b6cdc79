/- The Go function PackCuts returns true for every three numbers and every slice of numbers, and only makes new memory; without conditions. -/
import Derived.Test.YtbgdpcffbihhaaaC
import Derived.Test.YtbgdpcffbihhaaaE
import Derived.Test.YtbgdpcffbihhaaaFr
namespace Go.Proofs.Ytbgdpcffbihhaaa
open Go.RowKit Go.BW

set_option maxRecDepth 100000 in
set_option maxHeartbeats 4000000 in
theorem cuts_walk (w : World) (v : Int) (L : Option Addr) (m d : Nat) (zs : List Int) (hin : InI w L m d zs) (width at' : Int) :
    Calls Try.prog 9 #[.int .i64 v, .slice L m d, .int .i64 width, .int .i64 at'] w (Ret (.bool true) w) := by
  obtain ⟨hz, hd, hdm, hlz, hbz⟩ := hin
  clear hbz
  obtain ⟨t, wd, ht, ht0, ht1, hwd, h1, h6⟩ := wid_of width
  obtain ⟨p, hp, hp0, hp1, hpp⟩ := mask_of wd h1 h6
  obtain ⟨c1, c2, c3, c4⟩ := cut_of v p wd h1 h6 hpp.out
  obtain ⟨a, ha⟩ : ∃ a, v % p = a := ⟨_, rfl⟩
  rw [ha] at c1 c2 c3 c4
  clear ha
  have C4 := Lib.hid c4; clear c4
  have Hlz := Lib.hid hlz; clear hlz
  have ea : putL [] a wd = be a wd := by simp [putL, C4.out]
  obtain ⟨K, hK⟩ : ∃ K, K = min m 100 := ⟨_, rfl⟩
  have hKm : K ≤ m := by omega
  have hK5 : K ≤ 100 := by omega
  have HK := Lib.hid hK; clear hK
  obtain ⟨x, hx, hx0⟩ : ∃ x, bits .and .i64 at' 255 = x ∧ 0 ≤ x := ⟨_, rfl, by
    have h := and_mask at' 8 (by decide)
    rw [show (2 : Int) ^ 8 - 1 = 255 from by decide] at h
    rw [h]; exact Int.emod_nonneg _ (by decide)⟩
  obtain ⟨y, hy, hy0⟩ : ∃ y, bits .and .i64 at' 65535 = y ∧ 0 ≤ y := ⟨_, rfl, by
    have h := and_mask at' 16 (by decide)
    rw [show (2 : Int) ^ 16 - 1 = 65535 from by decide] at h
    rw [h]; exact Int.emod_nonneg _ (by decide)⟩
  unfold maxLen at hdm
  go_enter Try.func9, Try.ntmps9
  go_wp2_with (first | ((with_reducible refine (shown_any _).mono ?_); rintro e w1 ⟨rfl, hw1⟩))
  go_loopw [11, 12] (fun s i wr => CutRel w K zs p s i wr) (fun _ i _ => K - (intOf i).toNat)
  case atStart => exact ⟨0, 0, none, 0, by omega, rfl, rfl, hw1, Own.nil⟩
  case round =>
    obtain ⟨j, q, A', c', hj, rfl, rfl, hnw, hown⟩ := hrel
    by_cases hlt : j < K
    · obtain ⟨b, off, rfl, hzj, hcell⟩ := (hz.nw hnw (Nat.le_refl _)).atI (show j < m by omega)
      have hcut := (cut_of zs[j] p wd h1 h6 hpp.out).1
      have hsn := cutRow_snoc zs p j hzj
      have hq : q = j := by have h := hown.len; rw [List.length_map, List.length_map, List.length_take] at h; omega
      have hsm : (q + 1) * 8 ≤ 140737488355328 ∧ q + 1 ≤ maxLen := by unfold maxLen; omega
      have Hsn := Lib.hid hsn; clear hsn
      have Hq := Lib.hid hq; clear hq
      go_wp2_with (first | (at_builtin; refine wpList_app1_own T27 _ _ rfl rfl rfl rfl hown rfl hsm hnw.size ?_; intro A2 c2 w2 h4 h5 _))
      go_roundw
      case rel => exact ⟨j + 1, _, A2, c2, by omega, rfl, by go_num, nw_of_gb hnw h5 hown.blk, by rw [Hsn.out, List.map_append]; exact h4⟩
      case measure => simp [intOf]; omega
    · have hjK : j = K := by omega
      subst hjK
      have hrow := cutRow_may (zs.take j) p wd h1 h6 hpp.out
      have hrl : ((zs.take j).map (· % p)).length = j := by rw [List.length_map, List.length_take]; have := Hlz.out; omega
      generalize (zs.take j).map (· % p) = row at *
      have hq := hown.len
      rw [List.length_map, hrl] at hq
      have Hrow := Lib.hid hrow; clear hrow
      have Hrl := Lib.hid hrl; clear hrl
      have Hq := Lib.hid hq; clear hq
      have hexit : (¬ (j < m)) ∨ (j < m ∧ ¬ ((j : Int) < 100)) := by have := HK.out; omega
      rcases hexit with hx | ⟨hx, hx2⟩
      all_goals
        go_wp2_with fail
        refine (put_any _ _ _ [] _ _ 0 _ Rd.nil (by omega) (by omega) (by omega) (by omega)).mono ?_
        rw [ea]
        rintro e w2 ⟨A2, n2, c2', rfl, o2, e2⟩
        obtain rfl : wd = n2 := by have hn2 := own_small o2; rwa [len_be] at hn2
        have q2 := gb_trans hnw e2
        go_wp2_with fail
        refine (putRow_any _ _ _ _ _ _ [] _ _ w2.heap.size _ Rd.nil (hown.nw e2).rd (Nat.le_refl _) (by omega) (by omega) (by have := Hq.out; omega) (fun z hz => by have h := (mayB_iff.1 (Hrow.out z hz)).2.2.2; have := hpp.out; rw [show (8 * (wd : Int)).toNat = 8 * wd from by omega, ← this] at h; omega)).mono ?_
        have er := putRow_enc [] row wd h1 h6 (by have := Hrl.out; omega) Hrow.out
        rw [er, List.nil_append]
        rintro e w4 ⟨A4, n4, c4', rfl, o4, e4⟩
        have hn4 := own_small o4
        have hn4' := hn4
        rw [enc_len, Hrl.out] at hn4'
        have hn4b : n4 ≤ 4000 := by have := Nat.mul_le_mul (show j ≤ 100 by omega) h6; omega
        have hn4c : 2 ≤ n4 := by omega
        have Hn4 := Lib.hid hn4; clear hn4
        clear hn4'
        have q4 := gb_trans q2 e4
        have o2' := o2.nw e4
        have bw : ((wd : Int) != (wd : Int)) = false := by simp
        obtain ⟨x', hx', hx1⟩ : ∃ x' : Nat, x % (wd : Int) = (x' : Int) ∧ x' < wd := ⟨(x % (wd : Int)).toNat, by
          have := Int.emod_nonneg x (show (wd : Int) ≠ 0 by omega); omega, by
          have := Int.emod_nonneg x (show (wd : Int) ≠ 0 by omega)
          have := Int.emod_lt_of_pos x (show (0 : Int) < wd by omega); omega⟩
        obtain ⟨y', hy', hy1⟩ : ∃ y' : Nat, y % (n4 : Int) = (y' : Int) ∧ y' < n4 := ⟨(y % (n4 : Int)).toNat, by
          have := Int.emod_nonneg y (show (n4 : Int) ≠ 0 by omega); omega, by
          have := Int.emod_nonneg y (show (n4 : Int) ≠ 0 by omega)
          have := Int.emod_lt_of_pos y (show (0 : Int) < n4 by omega); omega⟩
        have t2 := o2'.rd.take (size := 1) (Nat.le_of_lt hx1)
        have t4 := o4.rd.take (size := 1) (Nat.le_of_lt hy1)
        rw [Nat.mul_one, ← List.map_take] at t2 t4
        have hcap2 := o2.cap
        have hcap4 := o4.cap
        unfold maxLen at hcap2 hcap4
        have l2 : ((be a wd).take x').length = x' := by rw [List.length_take, len_be]; omega
        have l4 : ((enc row wd).take y').length = y' := by rw [List.length_take, Hn4.out]; omega
        have g2 : getB ((be a wd).take x').length wd = false := by rw [l2]; unfold getB; rw [decide_eq_false_iff_not]; omega
        have g4 := rowB_cut row wd y' (by have := Hrl.out; omega) (by rw [Hn4.out]; exact hy1)
        have G2 := Lib.hid g2; clear g2
        have G4 := Lib.hid g4; clear g4
        clear l2 l4
        go_wp2_with fail
        refine (get_any _ _ _ _ _ _ _ t2 (by omega)).mono ?_
        rw [G2.out]
        rintro e w' ⟨rfl, rfl⟩
        go_wp2_with fail
        refine (row_one _ _ _ _ _ _ _ t4 (Nat.le_refl _) (by omega) o4.cap.2).mono ?_
        unfold RetRow1 rowM rowL
        rw [G4.out]
        rintro e w6 ⟨A6, n6, c6', rfl, o6, e9⟩
        go_wp2
        go_ret
        exact ⟨rfl, gb_trans q4 e9⟩
theorem cuts_all (v : Int) (_ : -9223372036854775808 ≤ v ∧ v ≤ 9223372036854775807) (L : Option Addr) (m d : Nat) (zs : List Int) {w : World} (hin : InI w L m d zs) (width : Int) (_ : -9223372036854775808 ≤ width ∧ width ≤ 9223372036854775807)
    (at' : Int) (_ : -9223372036854775808 ≤ at' ∧ at' ≤ 9223372036854775807) : Calls Try.prog 9 #[.int .i64 v, .slice L m d, .int .i64 width, .int .i64 at'] w (Ret (.bool true) w) := cuts_walk w v L m d zs hin width at'
end Go.Proofs.Ytbgdpcffbihhaaa
