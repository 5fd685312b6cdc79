/- The law GroupPicks, walked: disks are picked by their room. -/
import Derived.Test.YtobifmndpkjlmaaJS
import Derived.Test.YtobifmndpkjlmaaJK
import Derived.Test.YtobifmndpkjlmaaJA
import Derived.Test.YtobifmndpkjlmaaJF
import Derived.Test.YtobifmndpkjlmaaJL
set_option linter.unusedVariables false
set_option linter.unusedSimpArgs false
namespace Go.Proofs.Ytobifmndpkjlmaa
open Go.RowKit Go.BW

set_option maxRecDepth 100000 in
set_option maxHeartbeats 16000000 in
theorem gpicks_all {w : World} (A0 : Option Addr) (n0 c0 : Nat) (zs : List Int) (h0 : InI w A0 n0 c0 zs) (wd : Int) (_hl : -9223372036854775808 ≤ wd ∧ wd ≤ 9223372036854775807) (A1 : Option Addr) (n1 c1 : Nat) (ban : List Int) (h1 : InI w A1 n1 c1 ban) (hszc : c1 * 8 ≤ 140737488351232) :
    Calls Try.prog 3 #[.slice A0 n0 c0, .int .i64 wd, .slice A1 n1 c1] w (Ret (.bool true) w) := by
  obtain ⟨hrz, hnc, x1, hlz, x2⟩ := h0
  obtain ⟨hrb, x3, x4, x5, x6⟩ := h1
  have hsz : n1 * 8 ≤ 140737488351232 := by omega
  obtain ⟨n, hn⟩ : ∃ n, min n0 60 = n := ⟨_, rfl⟩
  have hn60 : n ≤ 60 := by omega
  have hnc0 : n ≤ c0 := by omega
  have hnn0 : n ≤ n0 := by omega
  obtain ⟨rs, hrs⟩ : ∃ rs, zs.take n = rs := ⟨_, rfl⟩
  have HRD := Lib.hid (show Rd w w.heap.size 1 A0 n (rs.map iv) from by
    have := hrz.take hnn0
    rwa [Nat.mul_one, ← List.map_take, hrs] at this)
  have HBD := Lib.hid hrb
  have HMIN := Lib.hid (show (if (60 : Int) < (n0 : Int) then (60 : Int) else (n0 : Int)) = (n : Int) from by split <;> omega)
  obtain ⟨l, hl, _⟩ := ranked_exists rs (fun d => decide ((d : Int) ∉ ban))
  have HLK := Lib.hid (show Ranked rs (fun d => (d : Int) ∉ ban) l from ranked_congr hl (fun d => by simp))
  obtain ⟨kk, hkk⟩ : ∃ kk, kP l wd = kk := ⟨_, rfl⟩
  obtain ⟨bb, hbb⟩ : ∃ bb, okP l wd = bb := ⟨_, rfl⟩
  have hkl : kk ≤ 60 := by
    have h2 := kP_le l wd
    have h3 := ranked_len HLK.out
    have h4 : rs.length = n := by rw [← hrs, List.length_take]; omega
    omega
  have SH := Lib.hid (fun w' => shown_any w')
  have PK := Lib.hid (show ∀ w' A' c', Nw w w' → Rd w' w'.heap.size 1 A' n (rs.map iv) → Calls Try.prog 11 #[.slice A' n c', .int .i64 wd, .slice A1 n1 c1] w' (PkPost l kk bb w') from fun w' A' c' hw ha => by
    rw [← hkk, ← hbb]
    exact pick_is HLK.out ha ((HBD.out.nw hw (Nat.le_refl _)).more hw.size) (Nat.le_refl _) (by omega) (by omega) wd)
  have RK := Lib.hid (show ∀ w', Nw w w' → Calls Try.prog 12 #[.slice A0 n c0, .int .i64 wd, .slice A1 n1 c1] w' (RkPost l kk bb w') from fun w' hw => by
    rw [← hkk, ← hbb]
    exact rpick_is HLK.out (HRD.out.nw hw (Nat.le_refl _)) (HBD.out.nw hw (Nat.le_refl _)) hw.size hn60 hsz wd)
  have NU := Lib.hid (show ∀ w' A' c' A'' c'', Rd w' w'.heap.size 1 A' kk ((l.take kk).map nv) → Rd w' w'.heap.size 1 A'' kk ((l.take kk).map nv) → Calls Try.prog 13 #[.slice A' kk c', .slice A'' kk c''] w' (Ret (.bool true) w') from fun w' A' c' A'' c'' ha hb => by
    rw [← nz_iv] at ha hb
    have := numbers_any (c := c') (c' := c'') ha hb (by omega)
    rwa [show numB (nz (l.take kk)) (nz (l.take kk)) = true from numB_iff.2 rfl] at this)
  have NU2 := Lib.hid (show ∀ w' A' c', Nw w w' → Rd w' w'.heap.size 1 A' n (rs.map iv) → Calls Try.prog 13 #[.slice A' n c', .slice A0 n c0] w' (Ret (.bool true) w') from fun w' A' c' hw ha => by
    have := numbers_any (c := c') (c' := c0) ha (HRD.out.nw hw (Nat.le_refl _)) (by omega)
    rwa [show numB rs rs = true from numB_iff.2 rfl] at this)
  unfold Ret at SH NU NU2
  unfold PkPost at PK
  unfold RkPost at RK
  have hone := iv_one rs
  have hs1 : n * 8 ≤ 140737488355328 ∧ n ≤ maxLen := by unfold maxLen; omega
  have hs2 : (kk + 1) * 8 ≤ 140737488355328 ∧ kk + 1 ≤ maxLen := by unfold maxLen; omega
  have hbz : (bb != bb) = false := by cases bb <;> rfl
  clear x1 x2 x3 x4 x5 x6 hrz hrb hlz hl hkk hbb hrs hn hnc
  go_enter Try.func3, Try.ntmps3
  go_upto_region 4 with (first
    | (at_builtin; refine wpList_app_lit T22 _ _ rfl rfl w1.heap.size rfl rfl (HRD.out.nw n1' (Nat.le_refl _)) n1'.size hone hs1 (Nat.le_refl _) ?_; intro A2 c2 w2 o2 m2)
    | ((with_reducible refine wpList_min_int _ _ _ (by with_unfolding_all exact rfl) (by with_unfolding_all exact rfl) (n0 : Int) 60 (by with_unfolding_all exact rfl) (by with_unfolding_all exact rfl) HMIN.out ?_))
    | ((with_reducible refine wpList_slice_hi 22 3 Try.underlying22 info3 _ _ (by with_unfolding_all exact rfl) (by with_unfolding_all exact rfl) A0 n0 c0 n (by with_unfolding_all exact rfl) (by with_unfolding_all exact rfl) hnc0 ?_))
    | ((with_reducible refine (SH.out _).mono ?_); rintro e w1 ⟨rfl, n1'⟩))
  have O2 := Lib.hid (show Own w2 w1.heap.size 3 1 A2 n c2 (rs.map iv) from o2)
  have N2 := Lib.hid (gb_trans n1' m2)
  clear o2 n1' m2 SH hone hs1
  go_upto_region 9 with (first
    | ((with_reducible refine (NU.out _ _ _ _ _ (r3.nw n4 (Nat.le_refl _) |>.more n4.size) r4).mono ?_); rintro e w5 ⟨rfl, n5⟩)
    | ((with_reducible refine (RK.out _ (gb_trans N2.out n3)).mono ?_); rintro e w4 ⟨A4, c4, rfl, r4, n4⟩)
    | ((with_reducible refine (PK.out _ _ _ N2.out O2.out.rd).mono ?_); rintro e w3 ⟨A3, rfl, r3, n3⟩))
  have N5 := Lib.hid (show Nw w2 w5 from gb_trans n3 (gb_trans n4 n5))
  have R5 := Lib.hid (show Rd w5 w5.heap.size 1 A3 kk ((l.take kk).map nv) from (r3.nw (gb_trans n4 n5) (Nat.le_refl _)).more (gb_trans n4 n5).size)
  clear r3 n3 r4 n4 n5 PK RK NU
  go_upto_region 10 with (at_builtin; refine wpList_app1_full (u := Value.int .i64 7) T22 _ _ rfl rfl w5.heap.size rfl rfl R5.out (Nat.le_refl _) hs2 (Nat.le_refl _) ?_; intro A6 c6 w6 o6 n6)
  obtain ⟨g, rfl, hg5⟩ := o6.some_ (by omega)
  have hl6 := o6.len
  obtain ⟨xs, hxs⟩ : ∃ xs, (l.take kk).map nv ++ [Value.int .i64 7] = xs := ⟨_, rfl⟩
  rw [hxs] at o6 hl6
  have O6 := Lib.hid o6
  have N6 := Lib.hid (gb_trans N5.out n6)
  clear o6 n6 hl6 R5 hxs
  go_wp2_with fail
  go_loopw [14] (fun v wr => ∃ (i : Nat) (xs : List Value), v = .int .i64 i ∧ i ≤ kk + 1 ∧ Hid (Own wr w5.heap.size 3 1 (some ⟨g, 0, none⟩) (kk + 1) c6 xs) ∧ Hid (Nw w2 wr)) (fun v _ => kk + 1 - (intOf v).toNat)
  case atStart => exact ⟨0, xs, rfl, Nat.zero_le _, O6, N6⟩
  case round =>
    obtain ⟨i, ys, rfl, hik, ho, hw⟩ := hrel
    by_cases hlt : i < kk + 1
    · have hltz : (i : Int) < ((kk + 1 : Nat) : Int) := by omega
      have hltz2 : (i : Int) < (kk : Int) + 1 := by omega
      obtain ⟨u, u1, u2, u3⟩ := ho.out.cellAt hlt
      clear u1
      go_wp2_with fail
      obtain ⟨o7, g7⟩ := ho.out.set i (.int .i64 77)
      go_roundw
      case rel => exact ⟨i + 1, _, by go_num, by omega, Lib.hid o7, Lib.hid (nw_of_gb hw.out g7 (fun z hz => by injection hz with hz; subst hz; exact Nat.le_trans N5.out.size hg5))⟩
      case measure => simp only [intOf]; omega
    · have hltz : ¬ (i : Int) < ((kk + 1 : Nat) : Int) := by omega
      have hltz2 : ¬ (i : Int) < (kk : Int) + 1 := by omega
      go_wp2_with ((with_reducible refine (NU2.out _ _ _ (gb_trans N2.out hw.out) ((O2.out.rd.nw hw.out (Nat.le_refl _)).more hw.out.size)).mono ?_); rintro e w8 ⟨rfl, n8⟩)
      go_ret
      exact ⟨by first | rfl | simp, gb_trans N2.out (gb_trans hw.out n8)⟩
end Go.Proofs.Ytobifmndpkjlmaa

