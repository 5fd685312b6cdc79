/- The Go function PackBack returns true for every two numbers, slice of numbers and slice of bytes, and only makes new memory; without conditions. -/
import Derived.Test.YtbgdpcffbihhaaaC
import Derived.Test.YtbgdpcffbihhaaaE
import Derived.Test.YtbgdpcffbihhaaaFr
namespace Go.Proofs.Ytbgdpcffbihhaaa
open Go.RowKit Go.BW

set_option maxRecDepth 100000 in
set_option maxHeartbeats 4000000 in
theorem back_walk (w : World) (v : Int) (L : Option Addr) (m d : Nat) (zs : List Int) (hin : InI w L m d zs) (width : Int) (A : Option Addr) (n c : Nat) (bs : List UInt8) (hbs : InB w A n c bs) :
    Calls Try.prog 8 #[.int .i64 v, .slice L m d, .int .i64 width, .slice A n c] w (Ret (.bool true) w) := by
  obtain ⟨hr, hc, hcm, hl⟩ := hbs
  obtain ⟨hz, hd, hdm, hlz, hbz⟩ := hin
  obtain ⟨k, hk⟩ : ∃ k : Nat, (¬ (500 : Int) < n ∧ k = n) ∨ ((500 : Int) < n ∧ k = 500) := by
    by_cases h : n ≤ 500
    · exact ⟨n, .inl ⟨by omega, rfl⟩⟩
    · exact ⟨500, .inr ⟨by omega, rfl⟩⟩
  have hkn : k ≤ n := by omega
  have hk2 : k ≤ 500 := by omega
  have hrk := hr.take (size := 1) hkn
  rw [Nat.mul_one, ← List.map_take] at hrk
  generalize bs.take k = more at *
  clear hr hl hbz
  obtain ⟨t, wd, ht, ht0, ht1, hwd, h1, h6⟩ := wid_of width
  obtain ⟨p, hp, hp0, hp1, hpp⟩ := mask_of wd h1 h6
  obtain ⟨c1, c2, c3, c4⟩ := cut_of v p wd h1 h6 hpp.out
  obtain ⟨a, ha⟩ : ∃ a, v % p = a := ⟨_, rfl⟩
  rw [ha] at c1 c2 c3 c4
  clear ha
  have C4 := Lib.hid c4; clear c4
  have Hlz := Lib.hid hlz; clear hlz
  have ea : putL [] a wd = be a wd := by simp [putL, C4.out]
  obtain ⟨K, hK⟩ : ∃ K, K = min m 500 := ⟨_, rfl⟩
  have hKm : K ≤ m := by omega
  have hK5 : K ≤ 500 := by omega
  have HK := Lib.hid hK; clear hK
  unfold maxLen at hcm hdm
  go_enter Try.func8, Try.ntmps8
  go_wp2_with (first | ((with_reducible refine (shown_any _).mono ?_); rintro e w1 ⟨rfl, hw1⟩))
  go_loopw [11, 12] (fun s i wr => CutRel w K zs p s i wr) (fun _ i _ => K - (intOf i).toNat)
  case atStart => exact ⟨0, 0, none, 0, by omega, rfl, rfl, hw1, Own.nil⟩
  case round =>
    obtain ⟨j, q, A', c', hj, rfl, rfl, hnw, hown⟩ := hrel
    by_cases hlt : j < K
    · obtain ⟨b, off, rfl, hzj, hcell⟩ := (hz.nw hnw (Nat.le_refl _)).atI (show j < m by omega)
      have hcut := (cut_of zs[j] p wd h1 h6 hpp.out).1
      have hsn := cutRow_snoc zs p j hzj
      have hq : q = j := by have h := hown.len; rw [List.length_map, List.length_map, List.length_take] at h; omega
      have hsm : (q + 1) * 8 ≤ 140737488355328 ∧ q + 1 ≤ maxLen := by unfold maxLen; omega
      have Hsn := Lib.hid hsn; clear hsn
      have Hq := Lib.hid hq; clear hq
      go_wp2_with (first | (at_builtin; refine wpList_app1_own T27 _ _ rfl rfl rfl rfl hown rfl hsm hnw.size ?_; intro A2 c2 w2 h4 h5 _))
      go_roundw
      case rel => exact ⟨j + 1, _, A2, c2, by omega, rfl, by go_num, nw_of_gb hnw h5 hown.blk, by rw [Hsn.out, List.map_append]; exact h4⟩
      case measure => simp [intOf]; omega
    · have hjK : j = K := by omega
      subst hjK
      have hrow := cutRow_may (zs.take j) p wd h1 h6 hpp.out
      have hrl : ((zs.take j).map (· % p)).length = j := by rw [List.length_map, List.length_take]; have := Hlz.out; omega
      generalize (zs.take j).map (· % p) = row at *
      have hq := hown.len
      rw [List.length_map, hrl] at hq
      have Hrow := Lib.hid hrow; clear hrow
      have Hrl := Lib.hid hrl; clear hrl
      have Hq := Lib.hid hq; clear hq
      have hexit : (¬ (j < m)) ∨ (j < m ∧ ¬ ((j : Int) < 500)) := by have := HK.out; omega
      rcases hexit with hx | ⟨hx, hx2⟩ <;> rcases hk with ⟨hk, rfl⟩ | ⟨hk, rfl⟩
      all_goals
        go_wp2_with fail
        refine (put_any _ _ _ [] _ _ 0 _ Rd.nil (by omega) (by omega) (by omega) (by omega)).mono ?_
        rw [ea]
        rintro e w2 ⟨A2, n2, c2', rfl, o2, e2⟩
        have hn2 := own_small o2
        rw [len_be] at hn2
        have hn2b : n2 ≤ 6 := by omega
        have Hn2 := Lib.hid hn2; clear hn2
        have q2 := gb_trans hnw e2
        go_wp2_with (first | (at_builtin; refine wpList_app_own T24 _ _ rfl rfl rfl rfl o2 (hrk.nw q2 (Nat.le_refl _)) (bv_one _) (by unfold maxLen; omega) e2.size ?_; intro A3 c3' w3 o3 e3 _))
        rw [← List.map_append] at o3
        have q3 := nw_of_gb q2 e3 (fun g h => Nat.le_trans hnw.size (o2.blk g h))
        have r2 : wr.heap.size ≤ w3.heap.size := Nat.le_trans e2.size e3.size
        have own3 : Own w3 w.heap.size 3 1 A' q c' (row.map iv) := (hown.nw e2).kept e3 (fun g h h' => by have h1 := o2.blk g h; have h2 := (World.ownsRow.lt hown g h').2; omega)
        refine (get_any _ _ _ _ _ _ _ o3.rd o3.cap.1).mono ?_
        have eg := getL_be a wd more C4.out
        have hgb : getB (be a wd ++ more).length wd = true := by unfold getB; rw [decide_eq_true_iff, List.length_append, len_be]; omega
        rw [eg, hgb]
        rintro e w' ⟨rfl, rfl⟩
        go_wp2_with fail
        refine (putRow_any _ _ _ _ _ _ [] _ _ w3.heap.size _ Rd.nil own3.rd (Nat.le_refl _) (by omega) (by omega) (by have := Hq.out; omega) (fun z hz => by have h := (mayB_iff.1 (Hrow.out z hz)).2.2.2; have := hpp.out; rw [show (8 * (wd : Int)).toNat = 8 * wd from by omega, ← this] at h; omega)).mono ?_
        have er := putRow_enc [] row wd h1 h6 (by have := Hrl.out; omega) Hrow.out
        rw [er, List.nil_append]
        rintro e w4 ⟨A4, n4, c4', rfl, o4, e4⟩
        have hn4 := own_small o4
        have hn4' := hn4
        rw [enc_len, Hrl.out] at hn4'
        have hn4b : n4 ≤ 4000 := by have := Nat.mul_le_mul (show j ≤ 500 by omega) h6; omega
        have Hn4 := Lib.hid hn4; clear hn4
        have Hn4' := Lib.hid hn4'; clear hn4'
        have q4 := gb_trans q3 e4
        have own4 := own3.nw e4
        go_wp2_with (first | (at_builtin; refine wpList_app_own T24 _ _ rfl rfl rfl rfl o4 (hrk.nw q4 (Nat.le_refl _)) (bv_one _) (by unfold maxLen; omega) e4.size ?_; intro A5 c5' w5 o5 e5 _))
        rw [← List.map_append] at o5
        have q5 := nw_of_gb q4 e5 (fun g h => Nat.le_trans q3.size (o4.blk g h))
        have own5 : Own w5 w.heap.size 3 1 A' q c' (row.map iv) := own4.kept e5 (fun g h h' => by have h1 := o4.blk g h; have h2 := (World.ownsRow.lt own3 g h').2; omega)
        refine (row_one _ _ _ _ _ _ _ o5.rd (Nat.le_refl _) o5.cap.1 o5.cap.2).mono ?_
        have e6 := rowL_enc row wd more h1 h6 (by have := Hrl.out; omega) Hrow.out
        have e7 := rowM_enc row wd more h1 h6 (by have := Hrl.out; omega)
        have e8 := rowB_enc row wd more h1 h6 (by have := Hrl.out; omega)
        unfold RetRow1
        rw [e6, e7, e8, Hn4.out]
        rintro e w6 ⟨A6, n6, c6', rfl, o6, e9⟩
        have q6 := gb_trans q5 e9
        have b6 := o6.cap
        have bq := hown.cap
        unfold maxLen at b6 bq
        obtain ⟨jw, hjw⟩ : ∃ jw : Nat, (q : Int) * wd = (jw : Int) := ⟨q * wd, by rw [Int.natCast_mul]⟩
        have bn : ((n4 : Int) == 2 + (jw : Int)) = true := by
          rw [beq_iff_eq, ← hjw, ← Hn4'.out, Hq.out]
          simp
        have hjwb : jw ≤ 4000 := by rw [beq_iff_eq] at bn; omega
        go_wp2_with fail
        refine (same_any _ _ _ _ _ _ _ _ _ _ (by omega) (by omega) o6.rd ((own5.nw e9).rd)).mono ?_
        rintro e w7 ⟨rfl, nd, rfl⟩
        have hs : sameB row row = true := by simp [sameB]
        go_wp2
        go_ret
        exact ⟨rfl, gb_drewN q6 nd⟩
theorem back_all (v : Int) (_ : -9223372036854775808 ≤ v ∧ v ≤ 9223372036854775807) (L : Option Addr) (m d : Nat) (zs : List Int) {w : World} (hin : InI w L m d zs) (width : Int) (_ : -9223372036854775808 ≤ width ∧ width ≤ 9223372036854775807)
    (A : Option Addr) (n c : Nat) (bs : List UInt8) (hbs : InB w A n c bs) : Calls Try.prog 8 #[.int .i64 v, .slice L m d, .int .i64 width, .slice A n c] w (Ret (.bool true) w) := back_walk w v L m d zs hin width A n c bs hbs
end Go.Proofs.Ytbgdpcffbihhaaa
