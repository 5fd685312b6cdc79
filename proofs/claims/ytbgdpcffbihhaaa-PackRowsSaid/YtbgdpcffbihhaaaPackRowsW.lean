/- The Go function PackRows returns true for every two slices of numbers and every two numbers, and only makes new memory; without conditions. -/
import Derived.Test.YtbgdpcffbihhaaaC
import Derived.Test.YtbgdpcffbihhaaaE
import Derived.Test.YtbgdpcffbihhaaaFr
namespace Go.Proofs.Ytbgdpcffbihhaaa
open Go.RowKit Go.BW

/-- the second loop: the first row stays -/
def CutRel2 (w wm : World) (A1 : Option Addr) (q1 c1 : Nat) (row : List Int) (K : Nat) (zs : List Int) (p : Int) (s i : Value) (wr : World) : Prop :=
  CutRel wm K zs p s i wr ∧ Own wr w.heap.size 3 1 A1 q1 c1 (row.map iv)
theorem row_le (row : List Int) (wd : Nat) (p : Int) (hp : p = 2 ^ (8 * wd)) (hp1 : p ≤ 281474976710656) (ha : ∀ z ∈ row, mayB z wd = true) : ∀ z ∈ row, z ≤ 9223372036854775807 := by
  intro z hz
  have h := (mayB_iff.1 (ha z hz)).2.2.2
  rw [show (8 * (wd : Int)).toNat = 8 * wd from by omega, ← hp] at h
  omega

set_option maxRecDepth 100000 in
set_option maxHeartbeats 8000000 in
theorem rows_walk (w : World) (L : Option Addr) (m d : Nat) (zs : List Int) (hin : InI w L m d zs) (L' : Option Addr) (m' d' : Nat) (zs' : List Int) (hin' : InI w L' m' d' zs') (x y : Int) :
    Calls Try.prog 10 #[.slice L m d, .slice L' m' d', .int .i64 x, .int .i64 y] w (Ret (.bool true) w) := by
  obtain ⟨hz, hd, hdm, hlz, hbz⟩ := hin
  obtain ⟨hz', hd', hdm', hlz', hbz'⟩ := hin'
  clear hbz hbz'
  obtain ⟨t, wd, ht, ht0, ht1, hwd, h1, h6⟩ := wid_of x
  obtain ⟨p, hp, hp0, hp1, hpp⟩ := mask_of wd h1 h6
  obtain ⟨t', wd', ht', ht0', ht1', hwd', h1', h6'⟩ := wid_of y
  obtain ⟨p', hp', hp0', hp1', hpp'⟩ := mask_of wd' h1' h6'
  have Hlz := Lib.hid hlz; clear hlz
  have Hlz' := Lib.hid hlz'; clear hlz'
  obtain ⟨K, hK⟩ : ∃ K, K = min m 60 := ⟨_, rfl⟩
  have hKm : K ≤ m := by omega
  have hK5 : K ≤ 60 := by omega
  have HK := Lib.hid hK; clear hK
  obtain ⟨K', hK'⟩ : ∃ K', K' = min m' 60 := ⟨_, rfl⟩
  have hKm' : K' ≤ m' := by omega
  have hK5' : K' ≤ 60 := by omega
  have HK' := Lib.hid hK'; clear hK'
  unfold maxLen at hdm hdm'
  go_enter Try.func10, Try.ntmps10
  go_wp2_with (first | ((with_reducible refine (shown_any _).mono ?_); rintro e w1 ⟨rfl, hw1⟩))
  go_loopw [10, 12] (fun s i wr => CutRel w K zs p s i wr) (fun _ i _ => K - (intOf i).toNat)
  case atStart => exact ⟨0, 0, none, 0, by omega, rfl, rfl, hw1, Own.nil⟩
  case round =>
    obtain ⟨j, q, A', c', hj, rfl, rfl, hnw, hown⟩ := hrel
    by_cases hlt : j < K
    · obtain ⟨b, off, rfl, hzj, hcell⟩ := (hz.nw hnw (Nat.le_refl _)).atI (show j < m by omega)
      have hcut := (cut_of zs[j] p wd h1 h6 hpp.out).1
      have hsn := cutRow_snoc zs p j hzj
      have hq : q = j := by have h := hown.len; rw [List.length_map, List.length_map, List.length_take] at h; omega
      have hsm : (q + 1) * 8 ≤ 140737488355328 ∧ q + 1 ≤ maxLen := by unfold maxLen; omega
      have Hsn := Lib.hid hsn; clear hsn
      have Hq := Lib.hid hq; clear hq
      go_wp2_with (first | (at_builtin; refine wpList_app1_own T27 _ _ rfl rfl rfl rfl hown rfl hsm hnw.size ?_; intro A2 c2 w2 h4 h5 _))
      go_roundw
      case rel => exact ⟨j + 1, _, A2, c2, by omega, rfl, by go_num, nw_of_gb hnw h5 hown.blk, by rw [Hsn.out, List.map_append]; exact h4⟩
      case measure => simp [intOf]; omega
    · have hjK : j = K := by omega
      subst hjK
      have hrow := cutRow_may (zs.take j) p wd h1 h6 hpp.out
      have hrl : ((zs.take j).map (· % p)).length = j := by rw [List.length_map, List.length_take]; have := Hlz.out; omega
      generalize (zs.take j).map (· % p) = row at *
      have hq := hown.len
      rw [List.length_map, hrl] at hq
      have Hrow := Lib.hid hrow; clear hrow
      have Hrl := Lib.hid hrl; clear hrl
      have Hq := Lib.hid hq; clear hq
      obtain ⟨wm, hwm⟩ : ∃ wm : World, wm = wr := ⟨_, rfl⟩
      subst hwm
      have hexit : (¬ (j < m)) ∨ (j < m ∧ ¬ ((j : Int) < 60)) := by have := HK.out; omega
      rcases hexit with hx | ⟨hx, hx2⟩
      all_goals
        go_wp2_with fail
        go_loopw [11, 13] (fun s i wr => CutRel2 w wm A' q c' row K' zs' p' s i wr) (fun _ i _ => K' - (intOf i).toNat)
        case atStart => exact ⟨⟨0, 0, none, 0, by omega, rfl, rfl, Nw.refl _, Own.nil⟩, hown⟩
        case round =>
          obtain ⟨⟨j', q', B', b', hj', rfl, rfl, hnw', hown'⟩, own1⟩ := hrel
          have hnw2 := gb_trans hnw hnw'
          by_cases hlt' : j' < K'
          · obtain ⟨b, off, rfl, hzj, hcell⟩ := (hz'.nw hnw2 (Nat.le_refl _)).atI (show j' < m' by omega)
            have hcut := (cut_of zs'[j'] p' wd' h1' h6' hpp'.out).1
            have hsn := cutRow_snoc zs' p' j' hzj
            have hq : q' = j' := by have h := hown'.len; rw [List.length_map, List.length_map, List.length_take] at h; omega
            have hsm : (q' + 1) * 8 ≤ 140737488355328 ∧ q' + 1 ≤ maxLen := by unfold maxLen; omega
            have Hsn := Lib.hid hsn; clear hsn
            have Hq' := Lib.hid hq; clear hq
            go_wp2_with (first | (at_builtin; refine wpList_app1_own T27 _ _ rfl rfl rfl rfl hown' rfl hsm hnw'.size ?_; intro A2 c2 w2 h4 h5 _))
            go_roundw
            case rel => exact ⟨⟨j' + 1, _, A2, c2, by omega, rfl, by go_num, nw_of_gb hnw' h5 hown'.blk, by rw [Hsn.out, List.map_append]; exact h4⟩, own1.kept h5 (fun g h h' => by have e1 := hown'.blk g h; have e2 := (World.ownsRow.lt hown g h').2; omega)⟩
            case measure => simp [intOf]; omega
          · have hjK : j' = K' := by omega
            subst hjK
            have hrow := cutRow_may (zs'.take j') p' wd' h1' h6' hpp'.out
            have hrl : ((zs'.take j').map (· % p')).length = j' := by rw [List.length_map, List.length_take]; have := Hlz'.out; omega
            generalize (zs'.take j').map (· % p') = row' at *
            have hq := hown'.len
            rw [List.length_map, hrl] at hq
            have Hrow' := Lib.hid hrow; clear hrow
            have Hrl' := Lib.hid hrl; clear hrl
            have Hq' := Lib.hid hq; clear hq
            have hexit : (¬ (j' < m')) ∨ (j' < m' ∧ ¬ ((j' : Int) < 60)) := by have := HK'.out; omega
            rcases hexit with hx' | ⟨hx', hx2'⟩
            all_goals
              go_wp2_with fail
              refine (putRow_any _ _ _ _ _ _ [] _ _ _ _ Rd.nil own1.rd (Nat.le_refl _) (by omega) (by omega) (by have := Hq.out; omega) (row_le row wd p hpp.out hp1 Hrow.out)).mono ?_
              rw [putRow_enc [] row wd h1 h6 (by have := Hrl.out; omega) Hrow.out, List.nil_append]
              rintro e w4 ⟨A4, n4, c4', rfl, o4, e4⟩
              have hn4 := own_small o4
              have hn4b : n4 ≤ 4000 := by rw [enc_len, Hrl.out] at hn4; have := Nat.mul_le_mul (show j ≤ 60 by omega) h6; omega
              have Hn4 := Lib.hid hn4; clear hn4
              have q4 := gb_trans hnw2 e4
              have own1' := own1.nw e4
              have own2' := hown'.nw e4
              go_wp2_with fail
              refine (putRow_any _ _ _ _ _ _ _ _ _ _ _ o4.rd own2'.rd (Nat.le_refl _) (by omega) o4.cap.1 (by have := Hq'.out; omega) (row_le row' wd' p' hpp'.out hp1' Hrow'.out)).mono ?_
              rw [putRow_enc (enc row wd) row' wd' h1' h6' (by have := Hrl'.out; omega) Hrow'.out]
              rintro e w5 ⟨A5, n5, c5', rfl, o5, e5⟩
              have hn5 := own_small o5
              have hn5b : n5 ≤ 8000 := by rw [List.length_append, Hn4.out, enc_len, Hrl'.out] at hn5; have := Nat.mul_le_mul (show j' ≤ 60 by omega) h6'; omega
              have hn45 : n4 + (enc row' wd').length = n5 := by rw [← hn5, List.length_append, Hn4.out]
              obtain ⟨n6, hn6⟩ : ∃ n6, (enc row' wd').length = n6 := ⟨_, rfl⟩
              rw [hn6] at hn45
              have Hn5 := Lib.hid hn5; clear hn5
              have Hn6 := Lib.hid hn6; clear hn6
              have q5 := gb_trans q4 e5
              have own1a := own1'.nw e5
              have own2a := own2'.nw e5
              have cap5 := o5.cap
              go_wp2_with fail
              refine (row_one _ _ _ _ _ _ _ o5.rd (Nat.le_refl _) o5.cap.1 o5.cap.2).mono ?_
              unfold RetRow1
              rw [rowL_enc row wd _ h1 h6 (by have := Hrl.out; omega) Hrow.out, rowM_enc row wd _ h1 h6 (by have := Hrl.out; omega), rowB_enc row wd _ h1 h6 (by have := Hrl.out; omega), Hn4.out]
              rintro e w6 ⟨A6, n7, c6', rfl, o6, e6⟩
              have q6 := gb_trans q5 e6
              have hdr := (o5.nw e6).rd.drop (size := 1) (show n4 ≤ n5 by omega) cap5.1
              rw [Nat.mul_one, ← List.map_drop] at hdr
              have hdd : (enc row wd ++ enc row' wd').drop n4 = enc row' wd' ++ [] := by rw [← Hn4.out, List.drop_left, List.append_nil]
              rw [hdd] at hdr
              have cap5' := cap5
              unfold maxLen at cap5'
              clear hdd
              have hn6b : 2 ≤ n6 := by rw [← Hn6.out, enc_len]; omega
              have hne : ¬ c5' = n4 := by omega
              rw [if_neg hne] at hdr
              have hlen5 : n5 - n4 ≤ c5' - n4 := by omega
              have hcm5 : c5' - n4 ≤ maxLen := by unfold maxLen; omega
              have G8 := row_one _ _ _ _ (wd' : Int) _ w6 hdr (Nat.le_refl _) hlen5 hcm5
              unfold RetRow1 at G8
              rw [rowL_enc row' wd' _ h1' h6' (by have := Hrl'.out; omega) Hrow'.out, rowM_enc row' wd' _ h1' h6' (by have := Hrl'.out; omega), rowB_enc row' wd' _ h1' h6' (by have := Hrl'.out; omega), Hn6.out] at G8
              have HG8 := Lib.hid G8; clear G8
              have b6 := o6.cap
              have bA := own1.cap
              have bB := hown'.cap
              unfold maxLen at b6 bA bB
              have bn : ((n4 : Int) + (n6 : Int) == (n5 : Int)) = true := by rw [beq_iff_eq]; omega
              go_wp2_with (first | ((with_reducible refine HG8.out.mono ?_); rintro e w8 ⟨A8, n8, c8, rfl, o8, e8⟩))
              have q8 := gb_trans q6 e8
              have o6a := o6.nw e8
              have own1b := (own1a.nw e6).nw e8
              have own2b := (own2a.nw e6).nw e8
              have b8 := o8.cap
              unfold maxLen at b8
              refine (same_any _ _ _ _ _ _ _ _ _ _ (by omega) (by omega) o6a.rd own1b.rd).mono ?_
              rintro e w9 ⟨rfl, nd, rfl⟩
              have hs : sameB row row = true := by simp [sameB]
              have hs' : sameB row' row' = true := by simp [sameB]
              go_wp2_with fail
              refine (same_any _ _ _ _ _ _ _ _ _ _ (by omega) (by omega) (o8.drewN nd).rd (own2b.drewN nd).rd).mono ?_
              rintro e w9 ⟨rfl, nd', rfl⟩
              go_wp2
              go_ret
              exact ⟨rfl, gb_drewN q8 _⟩
theorem rows_all (L : Option Addr) (m d : Nat) (zs : List Int) {w : World} (hin : InI w L m d zs) (L' : Option Addr) (m' d' : Nat) (zs' : List Int) (hin' : InI w L' m' d' zs') (x : Int) (_ : -9223372036854775808 ≤ x ∧ x ≤ 9223372036854775807)
    (y : Int) (_ : -9223372036854775808 ≤ y ∧ y ≤ 9223372036854775807) : Calls Try.prog 10 #[.slice L m d, .slice L' m' d', .int .i64 x, .int .i64 y] w (Ret (.bool true) w) := rows_walk w L m d zs hin L' m' d' zs' hin' x y
end Go.Proofs.Ytbgdpcffbihhaaa
