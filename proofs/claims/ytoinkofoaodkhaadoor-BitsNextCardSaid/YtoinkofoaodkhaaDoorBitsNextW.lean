/- The Go function BitsNext returns true for every int, slice of ints and int, where the library's table lies as it was laid; without other conditions. -/
import Derived.Test.YtoinkofoaodkhaaDoorH
import Derived.Test.YtoinkofoaodkhaaDoorFr
namespace Go.Proofs.YtoinkofoaodkhaaDoor
open Go.RowKit Go.BW Go.BW.Bit

set_option maxRecDepth 100000 in
set_option maxHeartbeats 8000000 in
theorem next_walk (n0 : Int) (_ : -9223372036854775808 ≤ n0 ∧ n0 ≤ 9223372036854775807) {w : World} (A : Option Addr) (len cap : Nat) (zs : List Int) (hin : InI w A len cap zs) (f : Int) (hf : -9223372036854775808 ≤ f ∧ f ≤ 9223372036854775807) (ht : Tab w) :
    Calls Tryd.prog 4 #[.int .i64 n0, .slice A len cap, .int .i64 f] w (Ret (.bool true) w) := by
  obtain ⟨hr, hc, hcm, hll, _⟩ := hin
  have HR := Lib.hid hr; have HT := Lib.hid ht
  clear hr ht hll
  unfold maxLen at hcm
  obtain ⟨m, N, hm, hN, hN2⟩ := cut_num n0
  have HNEW := Lib.hid (fun w => new_N N hN2 w)
  go_enter Tryd.func4, Tryd.ntmps4
  go_wp2_with (first | (refine (HNEW.out _).mono ?_; rintro e w2 h1; obtain ⟨ga, rfl, s1, hga, n2⟩ := BS.of_new N1.out h1; have S1 := Lib.hid s1; clear s1 h1 hga n2; unfold pv) |
    ((with_reducible refine (shown_any HT.out).mono ?_); rintro e w1 ⟨rfl, n1⟩; have N1 := Lib.hid n1; clear n1))
  clear hm hN
  go_loopw [9] (fun i wr => ∃ i' : Nat, i = .int .i64 i' ∧ i' ≤ 500 ∧ i' ≤ len ∧ SetsRel w ga N wr) (fun i _ => 500 - (intOf i).toNat)
  case atStart => exact ⟨0, rfl, by omega, by omega, _, S1.out, by simp⟩
  case round =>
    obtain ⟨i, rfl, hi1, hi2, bs, s5, len5⟩ := hrel
    have S5 := Lib.hid s5; have L5 := Lib.hid len5; clear s5 len5
    by_cases hlt : i < len ∧ i < 500
    · obtain ⟨hlt1, hlt2⟩ := hlt
      obtain ⟨b, off, rfl, hz, hcu⟩ := (HR.out.nw S5.out.nw (Nat.le_refl _)).atI hlt1
      obtain ⟨z, hzz⟩ : ∃ z, zs[i] = z := ⟨_, rfl⟩
      rw [hzz] at hcu
      clear hzz hz
      go_wp2_with (refine (takeAt_any S5.out.rep z).mono ?_; intro e w6 h6; obtain ⟨rfl, s6, c6⟩ := S5.out.step h6; have S6 := Lib.hid s6; clear s6 c6 h6)
      exact ⟨⟨i + 1, by go_num, by omega, hlt1, _, S6.out, by rw [takeF_len]; exact L5.out⟩, by simp [intOf]; omega⟩
    · have hcases : (¬ i < len) ∨ (i < len ∧ i = 500) := by omega
      clear hlt
      have hmx : (if f < 0 then (0 : Int) else f) = (f.toNat : Int) := by split <;> omega
      have hnx := next_any S5.out.rep (S5.out.tab HT.out) f hf.2
      unfold nextV at hnx
      obtain ⟨F, hF⟩ : ∃ F, f.toNat = F := ⟨_, rfl⟩
      rw [hF] at hmx hnx
      have HMX := Lib.hid hmx
      cases hx : nxt bs F with
      | none =>
        rw [hx] at hnx
        have HALL := Lib.hid ((nxt_none bs F).1 hx)
        have HX := Lib.hid hnx
        unfold pv at HX
        have hF2 : F ≤ 9223372036854775807 := by omega
        clear hnx hx hmx hF hf
        rcases hcases with hlt1 | ⟨hlt1, rfl⟩
        all_goals
          go_wp2_with (first | (refine wpList_max_int _ _ _ rfl rfl f 0 rfl rfl HMX.out ?_) | (refine HX.out.mono ?_; rintro e w7 ⟨rfl, rfl⟩))
          go_loopw [12] (fun j w' => ∃ j' : Nat, j = .int .i64 j' ∧ F ≤ j' ∧ w' = wr) (fun j _ => N - (intOf j).toNat)
          case atStart => exact ⟨F, rfl, Nat.le_refl _, rfl⟩
          case round =>
            obtain ⟨j, rfl, hj, rfl⟩ := hrel
            by_cases hlj : j < N
            · have hh := S5.out.has j (by rw [L5.out]; exact hlj)
              rw [HALL.out j hj (by rw [L5.out]; exact hlj)] at hh
              have HH := Lib.hid hh; clear hh
              unfold pv at HH
              go_wp2_with (refine HH.out.mono ?_; rintro e w8 ⟨rfl, rfl⟩)
              exact ⟨⟨j + 1, by go_num, by omega, by first | rfl | trivial⟩, by simp [intOf]; omega⟩
            · go_wp2
              go_ret
              exact ⟨rfl, S5.out.nw⟩
      | some K =>
        rw [hx] at hnx
        obtain ⟨k1, k2, k3, k4⟩ := (nxt_some bs F K).1 hx
        have HALL := Lib.hid k4
        have HX := Lib.hid hnx
        have hhK := S5.out.has K k1
        rw [k3] at hhK
        rw [L5.out] at k1
        have HK := Lib.hid hhK
        unfold pv at HX HK
        have b1 : ¬ ((K : Int) < 0) := by omega
        have b2 : decide (N ≤ K) = false := by simp; omega
        have b3 : ¬ ((K : Int) < f) := by omega
        have hF2 : F ≤ 9223372036854775807 := by omega
        clear hnx hx hmx hF hf k3 k4 hhK
        rcases hcases with hlt1 | ⟨hlt1, rfl⟩
        all_goals
          go_wp2_with (first | (refine wpList_max_int _ _ _ rfl rfl f 0 rfl rfl HMX.out ?_) | (refine HX.out.mono ?_; rintro e w7 ⟨rfl, rfl⟩) | (refine HK.out.mono ?_; rintro e w7 ⟨rfl, rfl⟩))
          go_loopw [12] (fun j w' => ∃ j' : Nat, j = .int .i64 j' ∧ F ≤ j' ∧ w' = wr) (fun j _ => K - (intOf j).toNat)
          case atStart => exact ⟨F, rfl, Nat.le_refl _, rfl⟩
          case round =>
            obtain ⟨j, rfl, hj, rfl⟩ := hrel
            by_cases hlj : j < K
            · have hh := S5.out.has j (by rw [L5.out]; omega)
              rw [HALL.out j hj hlj] at hh
              have HH := Lib.hid hh; clear hh
              unfold pv at HH
              go_wp2_with (refine HH.out.mono ?_; rintro e w8 ⟨rfl, rfl⟩)
              exact ⟨⟨j + 1, by go_num, by omega, by first | rfl | trivial⟩, by simp [intOf]; omega⟩
            · go_wp2
              go_ret
              exact ⟨rfl, S5.out.nw⟩
end Go.Proofs.YtoinkofoaodkhaaDoor

