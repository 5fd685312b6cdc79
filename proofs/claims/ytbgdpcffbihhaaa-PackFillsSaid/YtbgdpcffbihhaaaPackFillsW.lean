/- The Go function PackFills returns true for every slice of bytes and every slice of sectors, and only makes new memory; without conditions. -/
import Derived.Test.YtbgdpcffbihhaaaF
import Derived.Test.YtbgdpcffbihhaaaFr
namespace Go.Proofs.Ytbgdpcffbihhaaa
open Go.RowKit Go.BW

theorem secL_full (l : List UInt8) (j : Nat) (h : l.length = j * 64) : secL l = l := by
  unfold secL secN
  rw [h, show (j * 64 + 63) / 64 * 64 - j * 64 = 0 by omega, List.replicate_zero, List.append_nil]
theorem secL_zero (l : List UInt8) (i : Nat) (h : l.length ≤ i) (hi : i < (secL l).length) : (secL l)[i] = 0 := by
  unfold secL at hi ⊢
  rw [List.getElem_append_right h, List.getElem_replicate]
set_option maxRecDepth 100000 in
set_option maxHeartbeats 4000000 in
theorem fills_walk (w : World) (A : Option Addr) (n c : Nat) (bs : List UInt8) (hin : InB w A n c bs) (L : Option Addr) (m d : Nat) (ls : List UInt8) (hin' : InS w L m d ls) :
    Calls Try.prog 6 #[.slice A n c, .slice L m d] w (Ret (.bool true) w) := by
  obtain ⟨hr, hc, hcm, hl⟩ := hin
  obtain ⟨hrl, hd, hdm⟩ := hin'
  obtain ⟨k, hk⟩ : ∃ k : Nat, (¬ (3000 : Int) < n ∧ k = n) ∨ ((3000 : Int) < n ∧ k = 3000) := by
    by_cases h : n ≤ 3000
    · exact ⟨n, .inl ⟨by omega, rfl⟩⟩
    · exact ⟨3000, .inr ⟨by omega, rfl⟩⟩
  obtain ⟨j, hj⟩ : ∃ j : Nat, (¬ (40 : Int) < m ∧ j = m) ∨ ((40 : Int) < m ∧ j = 40) := by
    by_cases h : m ≤ 40
    · exact ⟨m, .inl ⟨by omega, rfl⟩⟩
    · exact ⟨40, .inr ⟨by omega, rfl⟩⟩
  have hkn : k ≤ n := by omega
  have hk2 : k ≤ 3000 := by omega
  have hjm : j ≤ m := by omega
  have hj2 : j ≤ 40 := by omega
  have hrk := hr.take (size := 1) hkn
  rw [Nat.mul_one, ← List.map_take] at hrk
  have hlk : (bs.take k).length = k := by rw [List.length_take]; omega
  have hrj := hrl.take hjm
  rw [← List.map_take] at hrj
  have hlj : (ls.take (j * 64)).length = j * 64 := by have h := hrj.1; rwa [List.length_map] at h
  have hkc : k ≤ c := by omega
  generalize bs.take k = bk at *
  generalize ls.take (j * 64) = lj at *
  have hfull := secL_full lj j hlj
  clear hr hl hrl
  unfold maxLen at hcm hdm
  have Hlk := Lib.hid hlk; clear hlk
  have Hlj := Lib.hid hlj; clear hlj
  have Hfull := Lib.hid hfull; clear hfull
  obtain ⟨M, hM⟩ : ∃ M, (secL bk).length = M := ⟨_, rfl⟩
  have hMk : k ≤ M ∧ M < k + 64 ∧ M % 64 = 0 := by rw [← hM]; unfold secL secN; rw [List.length_append, List.length_replicate, Hlk.out]; omega
  obtain ⟨hMk1, hMk2, hMk3⟩ := hMk
  have HM := Lib.hid hM; clear hM
  have HM3 := Lib.hid hMk3; clear hMk3
  rcases hk with ⟨hk, rfl⟩ | ⟨hk, rfl⟩
  · rcases hj with ⟨hj, rfl⟩ | ⟨hj, rfl⟩
    all_goals
      go_enter Try.func6, Try.ntmps6
      go_wp2_with (first | ((with_reducible refine (shown_any _).mono ?_); rintro e w1 ⟨rfl, hw1⟩))
      refine (sectors_any _ _ _ _ _ _ (hrk.nw hw1 (Nat.le_refl _)) hw1.size (by omega) hkc (by unfold maxLen; omega)).mono ?_
      rintro e w3 ⟨A3, n3, c3, rfl, h4, h5⟩
      have hw3 := gb_trans hw1 h5
      have hn3 := h4.len
      rw [List.length_map, HM.out] at hn3
      have hn3b : n3 ≤ 100 := by omega
      clear hn3
      go_wp2_with fail
      refine (bytes_any _ _ _ _ _ h4.rd (by omega)).mono ?_
      rintro e w4 ⟨A4, n4, c4, rfl, h6, h7⟩
      have hw4 := gb_trans hw3 h7
      obtain rfl : n4 = M := by rw [← own_small h6, HM.out]
      go_wp2
      have cap6 := h6.cap
      unfold maxLen at cap6
      obtain ⟨cap6a, cap6b⟩ := cap6
      have t6 := h6.rd.take (size := 1) hMk1
      have hcut : (secL bk).take k = bk := by unfold secL; rw [← Hlk.out, List.take_left]
      rw [Nat.mul_one, ← List.map_take, hcut] at t6
      have Hcut := Lib.hid hcut; clear hcut
      have b1 : decide (n4 < k) = false := by simp; omega
      have b1' : decide ((n4 : Int) < (k : Int)) = false := by simp; omega
      have ew : IntKind.i64.wrap ((n4 : Int) - (k : Int)) = (n4 : Int) - (k : Int) := IntWalk.i64_in _ (by omega)
      have b2 : decide (64 ≤ (n4 : Int) - (k : Int)) = false := by simp; omega
      have m1 : (n4 : Int).tmod 64 = 0 := by rw [Int.tmod_eq_emod_of_nonneg (by omega)]; have := HM3.out; omega
      have hk4 : (k : Int) ≤ (c4 : Int) := by omega
      refine wp_region_held (S := (fun w' => Nw w4 w')) (by kernel_rfl) ?_
      change wpAnyH _ _ _ _ _ _ _ _ (World.drew w4)
      refine held_seg' (l := [0, 1, 2, 3, 4, 5, 6, 7, 8, 9, 10, 11, 12, 13, 14, 15, 16, 17, 18, 19, 20, 21, 22, 23, 24, 25, 26, 27, 28]) (fuel := 0) rfl (by kernel_rfl) (by kernel_rfl) (by simp only [List.filterMap_cons, List.filterMap_nil, List.getElem?_toArray, List.getElem?_cons_succ, List.getElem?_cons_zero]; rfl) (fun _ _ d _ _ h => by cases d <;> exact h) (gb_drew (Nw.refl w4)) ?_
      iterate 24 (refine wpYield_step rfl (fun K hK => ?_)
                  apply Exists.intro
                  refine ⟨fun w' hw' => ?_, ?_⟩
                  · (go_simp; try with_reducible rfl)
                  go_simp
                  refine hK _ ?_
                  clear hK K)
      refine wpYield_bytes_str 24 9 5 Try.underlying24 Try.underlying5 Try.underlying9 _ rfl rfl rfl (fun w' hw' => t6.nw hw' (Nat.le_refl _)) ?_
      (refine wpYield_step rfl (fun K hK => ?_)
       apply Exists.intro
       refine ⟨fun w' hw' => ?_, ?_⟩
       · (go_simp; try with_reducible rfl)
       go_simp
       refine hK _ ?_
       clear hK K)
      refine wpYield_bytes_str 24 9 5 Try.underlying24 Try.underlying5 Try.underlying9 _ rfl rfl rfl (fun w' hw' => hrk.nw (gb_trans hw4 hw') (Nat.le_refl _)) ?_
      iterate 2 (refine wpYield_step rfl (fun K hK => ?_)
                 apply Exists.intro
                 refine ⟨fun w' hw' => ?_, ?_⟩
                 · (go_simp; try with_reducible rfl)
                 go_simp
                 refine hK _ ?_
                 clear hK K)
      refine wpYield_nil ?_
      refine wpAnyH_done (by kernel_rfl) ?_ _
      clear ew b2 m1
      go_wp2
      go_loop [7] (fun i => ∃ q : Nat, bk.length ≤ q ∧ q ≤ n4 ∧ i = .int .i64 q) (fun i => n4 - (intOf i).toNat)
      case atStart => exact ⟨_, by rw [Hlk.out]; exact Nat.le_refl _, hMk1, rfl⟩
      case round =>
        obtain ⟨q, hq1, hq2, rfl⟩ := hrel
        by_cases hlt : q < n4
        · obtain ⟨b, off, rfl, hz, hcell⟩ := h6.rd.drew.atB hlt
          rw [secL_zero bk q hq1 hz] at hcell
          change _ = some (Value.int IntKind.u8 0) at hcell
          go_wp2
          go_round
          case rel => exact ⟨q + 1, by omega, by omega, by go_num⟩
          case measure => simp [intOf]; omega
        · have hw4' := gb_drew hw4
          go_wp2_with fail
          refine (bytes_any _ _ _ _ _ ((hrj.nw hw4' (Nat.le_refl _)).more hw4'.size) (by omega)).mono ?_
          rintro e w6 ⟨A6, n6, c6, rfl, h8, h9⟩
          have hw6 := gb_trans hw4' h9
          have hn6 := own_small h8
          have hn6b : n6 ≤ 2560 := by rw [← hn6, Hlj.out]; omega
          clear hn6
          have hcap8 := h8.cap
          go_wp2_with fail
          refine (sectors_any _ _ _ _ _ _ h8.rd (Nat.le_refl _) (by omega) hcap8.1 hcap8.2).mono ?_
          rw [Hfull.out]
          rintro e w7 ⟨A7, n7, c7, rfl, h10, h11⟩
          have hw7 := gb_trans hw6 h11
          have hn7 := h10.len
          rw [List.length_map, Hlj.out] at hn7
          have hn7b : n7 ≤ 40 := by omega
          clear hn7
          go_wp2_with fail
          refine (sames_any _ _ _ _ _ _ _ _ _ _ (by omega) (by omega) h10.rd ((hrj.nw hw7 (Nat.le_refl _)).more hw7.size)).mono ?_
          rintro e w8 ⟨rfl, nd, rfl⟩
          have hs : sameS lj lj = true := by simp [sameS]
          go_wp2
          go_ret
          exact ⟨rfl, gb_drewN hw7 nd⟩
  · rcases hj with ⟨hj, rfl⟩ | ⟨hj, rfl⟩
    all_goals
      go_enter Try.func6, Try.ntmps6
      go_wp2_with (first | ((with_reducible refine (shown_any _).mono ?_); rintro e w1 ⟨rfl, hw1⟩))
      refine (sectors_any _ _ _ _ _ _ (hrk.nw hw1 (Nat.le_refl _)) hw1.size (by omega) hkc (by unfold maxLen; omega)).mono ?_
      rintro e w3 ⟨A3, n3, c3, rfl, h4, h5⟩
      have hw3 := gb_trans hw1 h5
      have hn3 := h4.len
      rw [List.length_map, HM.out] at hn3
      have hn3b : n3 ≤ 100 := by omega
      clear hn3
      go_wp2_with fail
      refine (bytes_any _ _ _ _ _ h4.rd (by omega)).mono ?_
      rintro e w4 ⟨A4, n4, c4, rfl, h6, h7⟩
      have hw4 := gb_trans hw3 h7
      obtain rfl : n4 = M := by rw [← own_small h6, HM.out]
      go_wp2
      have cap6 := h6.cap
      unfold maxLen at cap6
      obtain ⟨cap6a, cap6b⟩ := cap6
      have t6 := h6.rd.take (size := 1) hMk1
      have hcut : (secL bk).take 3000 = bk := by unfold secL; rw [← Hlk.out, List.take_left]
      rw [Nat.mul_one, ← List.map_take, hcut] at t6
      have Hcut := Lib.hid hcut; clear hcut
      have b1 : decide (n4 < 3000) = false := by simp; omega
      have b1' : decide ((n4 : Int) < 3000) = false := by simp; omega
      have ew : IntKind.i64.wrap ((n4 : Int) - (3000 : Int)) = (n4 : Int) - (3000 : Int) := IntWalk.i64_in _ (by omega)
      have b2 : decide (64 ≤ (n4 : Int) - (3000 : Int)) = false := by simp; omega
      have m1 : (n4 : Int).tmod 64 = 0 := by rw [Int.tmod_eq_emod_of_nonneg (by omega)]; have := HM3.out; omega
      have hk4 : (3000 : Int) ≤ (c4 : Int) := by omega
      refine wp_region_held (S := (fun w' => Nw w4 w')) (by kernel_rfl) ?_
      change wpAnyH _ _ _ _ _ _ _ _ (World.drew w4)
      refine held_seg' (l := [0, 1, 2, 3, 4, 5, 6, 7, 8, 9, 10, 11, 12, 13, 14, 15, 16, 17, 18, 19, 20, 21, 22, 23, 24, 25, 26, 27, 28]) (fuel := 0) rfl (by kernel_rfl) (by kernel_rfl) (by simp only [List.filterMap_cons, List.filterMap_nil, List.getElem?_toArray, List.getElem?_cons_succ, List.getElem?_cons_zero]; rfl) (fun _ _ d _ _ h => by cases d <;> exact h) (gb_drew (Nw.refl w4)) ?_
      iterate 24 (refine wpYield_step rfl (fun K hK => ?_)
                  apply Exists.intro
                  refine ⟨fun w' hw' => ?_, ?_⟩
                  · (go_simp; try with_reducible rfl)
                  go_simp
                  refine hK _ ?_
                  clear hK K)
      refine wpYield_bytes_str 24 9 5 Try.underlying24 Try.underlying5 Try.underlying9 _ rfl rfl rfl (fun w' hw' => t6.nw hw' (Nat.le_refl _)) ?_
      (refine wpYield_step rfl (fun K hK => ?_)
       apply Exists.intro
       refine ⟨fun w' hw' => ?_, ?_⟩
       · (go_simp; try with_reducible rfl)
       go_simp
       refine hK _ ?_
       clear hK K)
      refine wpYield_bytes_str 24 9 5 Try.underlying24 Try.underlying5 Try.underlying9 _ rfl rfl rfl (fun w' hw' => hrk.nw (gb_trans hw4 hw') (Nat.le_refl _)) ?_
      iterate 2 (refine wpYield_step rfl (fun K hK => ?_)
                 apply Exists.intro
                 refine ⟨fun w' hw' => ?_, ?_⟩
                 · (go_simp; try with_reducible rfl)
                 go_simp
                 refine hK _ ?_
                 clear hK K)
      refine wpYield_nil ?_
      refine wpAnyH_done (by kernel_rfl) ?_ _
      clear ew b2 m1
      go_wp2
      go_loop [7] (fun i => ∃ q : Nat, bk.length ≤ q ∧ q ≤ n4 ∧ i = .int .i64 q) (fun i => n4 - (intOf i).toNat)
      case atStart => exact ⟨_, by rw [Hlk.out]; exact Nat.le_refl _, hMk1, rfl⟩
      case round =>
        obtain ⟨q, hq1, hq2, rfl⟩ := hrel
        by_cases hlt : q < n4
        · obtain ⟨b, off, rfl, hz, hcell⟩ := h6.rd.drew.atB hlt
          rw [secL_zero bk q hq1 hz] at hcell
          change _ = some (Value.int IntKind.u8 0) at hcell
          go_wp2
          go_round
          case rel => exact ⟨q + 1, by omega, by omega, by go_num⟩
          case measure => simp [intOf]; omega
        · have hw4' := gb_drew hw4
          go_wp2_with fail
          refine (bytes_any _ _ _ _ _ ((hrj.nw hw4' (Nat.le_refl _)).more hw4'.size) (by omega)).mono ?_
          rintro e w6 ⟨A6, n6, c6, rfl, h8, h9⟩
          have hw6 := gb_trans hw4' h9
          have hn6 := own_small h8
          have hn6b : n6 ≤ 2560 := by rw [← hn6, Hlj.out]; omega
          clear hn6
          have hcap8 := h8.cap
          go_wp2_with fail
          refine (sectors_any _ _ _ _ _ _ h8.rd (Nat.le_refl _) (by omega) hcap8.1 hcap8.2).mono ?_
          rw [Hfull.out]
          rintro e w7 ⟨A7, n7, c7, rfl, h10, h11⟩
          have hw7 := gb_trans hw6 h11
          have hn7 := h10.len
          rw [List.length_map, Hlj.out] at hn7
          have hn7b : n7 ≤ 40 := by omega
          clear hn7
          go_wp2_with fail
          refine (sames_any _ _ _ _ _ _ _ _ _ _ (by omega) (by omega) h10.rd ((hrj.nw hw7 (Nat.le_refl _)).more hw7.size)).mono ?_
          rintro e w8 ⟨rfl, nd, rfl⟩
          have hs : sameS lj lj = true := by simp [sameS]
          go_wp2
          go_ret
          exact ⟨rfl, gb_drewN hw7 nd⟩
theorem fills_all (A : Option Addr) (n c : Nat) (bs : List UInt8) {w : World} (hin : InB w A n c bs) (L : Option Addr) (m d : Nat) (ls : List UInt8) (hin' : InS w L m d ls) :
    Calls Try.prog 6 #[.slice A n c, .slice L m d] w (Ret (.bool true) w) := fills_walk w A n c bs hin L m d ls hin'
end Go.Proofs.Ytbgdpcffbihhaaa

