/- The Go function BitsBack returns true for every int and slice of ints, where the library's table lies as it was laid; without other conditions. -/
import Derived.Test.YtoinkofoaodkhaaDoorH
import Derived.Test.YtoinkofoaodkhaaDoorFr
namespace Go.Proofs.YtoinkofoaodkhaaDoor
open Go.RowKit Go.BW Go.BW.Bit

theorem okB_bytes (bs : List Bool) : okB bs.length (bytesOf bs) = true := (okB_iff _ _).2 (by rw [bitsOf_bytesOf])
theorem okB_len {n : Nat} {l : List UInt8} (h : l.length ≠ (n + 7) / 8) : okB n l = false := by unfold okB; simp [h]
theorem i5 : (Tryd.prog.info? 5).map (·.size) = some 1 := by kernel_rfl
set_option maxRecDepth 100000 in
set_option maxHeartbeats 8000000 in
theorem back_walk (n0 : Int) (_ : -9223372036854775808 ≤ n0 ∧ n0 ≤ 9223372036854775807) {w : World} (A : Option Addr) (len cap : Nat) (zs : List Int) (hin : InI w A len cap zs) (ht : Tab w) :
    Calls Tryd.prog 3 #[.int .i64 n0, .slice A len cap] w (Ret (.bool true) w) := by
  obtain ⟨hr, hc, hcm, hll, _⟩ := hin
  have HR := Lib.hid hr; have HT := Lib.hid ht
  clear hr ht hll
  unfold maxLen at hcm
  obtain ⟨m, N, hm, hN, hN2⟩ := cut_num n0
  have HNEW := Lib.hid (fun w => new_N N hN2 w)
  go_enter Tryd.func3, Tryd.ntmps3
  go_wp2_with (first | (refine (HNEW.out _).mono ?_; rintro e w2 h1; obtain ⟨ga, rfl, s1, hga, n2⟩ := BS.of_new N1.out h1; have S1 := Lib.hid s1; clear s1 h1 hga n2; unfold pv) |
    ((with_reducible refine (shown_any HT.out).mono ?_); rintro e w1 ⟨rfl, n1⟩; have N1 := Lib.hid n1; clear n1))
  clear hm hN
  go_loopw [7] (fun i wr => ∃ i' : Nat, i = .int .i64 i' ∧ i' ≤ 300 ∧ i' ≤ len ∧ SetsRel w ga N wr) (fun i _ => 300 - (intOf i).toNat)
  case atStart => exact ⟨0, rfl, by omega, by omega, _, S1.out, by simp⟩
  case round =>
    obtain ⟨i, rfl, hi1, hi2, bs, s5, len5⟩ := hrel
    have S5 := Lib.hid s5; have L5 := Lib.hid len5; clear s5 len5
    by_cases hlt : i < len ∧ i < 300
    · obtain ⟨hlt1, hlt2⟩ := hlt
      obtain ⟨b, off, rfl, hz, hcu⟩ := (HR.out.nw S5.out.nw (Nat.le_refl _)).atI hlt1
      obtain ⟨z, hzz⟩ : ∃ z, zs[i] = z := ⟨_, rfl⟩
      rw [hzz] at hcu
      clear hzz hz
      go_wp2_with (refine (takeAt_any S5.out.rep z).mono ?_; intro e w6 h6; obtain ⟨rfl, s6, c6⟩ := S5.out.step h6; have S6 := Lib.hid s6; clear s6 c6 h6)
      exact ⟨⟨i + 1, by go_num, by omega, hlt1, _, S6.out, by rw [takeF_len]; exact L5.out⟩, by simp [intOf]; omega⟩
    · have hcases : (¬ i < len) ∨ (i < len ∧ i = 300) := by omega
      clear hlt
      obtain ⟨L, hL⟩ : ∃ L, (N + 7) / 8 = L := ⟨_, rfl⟩
      have HBL := Lib.hid (show (bytesOf bs).length = L from by rw [bytesOf_len, L5.out, hL])
      have hL1 : ((N : Int) + 7) / 8 = (L : Int) := by omega
      have hL3 : L ≤ 300 := by omega
      have hL0 : 0 < N → 0 < L := by omega
      have hok := okB_bytes bs
      have hbb := bitsOf_bytesOf bs
      rw [L5.out] at hok hbb
      have HOK := Lib.hid hok; have HBB := Lib.hid hbb
      have HF1 := Lib.hid (show okB N (bytesOf bs ++ [0]) = false from okB_len (by rw [List.length_append, HBL.out, hL]; simp))
      have HF2 := Lib.hid (show 0 < L → okB N ((bytesOf bs).take (L - 1)) = false from fun h => okB_len (by rw [List.length_take, HBL.out, hL]; omega))
      have HCN := Lib.hid (fun (w' : World) (g : Nat) (h : BR w' g bs) => count_any h)
      obtain ⟨C, hC⟩ : ∃ C, cnt bs = C := ⟨_, rfl⟩
      rw [hC] at HCN
      unfold pv at HCN
      have HL0 := Lib.hid hL0
      clear hL hok hbb hC hL0
      rcases hcases with hlt1 | ⟨hlt1, rfl⟩
      all_goals
        go_wp2_with (first
          | ((with_reducible refine (HCN.out _ _ S7.out.rep).mono ?_); rintro e w8 ⟨rfl, rfl⟩)
          | ((with_reducible refine (HCN.out _ _ T7.out.rep).mono ?_); rintro e w8 ⟨rfl, rfl⟩)
          | (refine (of_ok N (by omega) O6.out.rd (Nat.le_refl _) HOK.out).mono ?_; rintro e w7 ⟨gb, rfl, b7, hg7, n7⟩; have S7 := Lib.hid (S6.out.more n7); have O7 := Lib.hid (O6.out.nw n7); rw [HBB.out] at b7; have T7 := Lib.hid (show BS w w7 gb bs from ⟨b7, Nat.le_trans (S6.out.nw.size) hg7, gb_trans S6.out.nw n7⟩); clear b7 hg7 n7; unfold pv)
          | (refine (bytes_any S5.out.rep).mono ?_; rintro e w6 ⟨A8, n8, c8, rfl, o6, n6⟩; have S6 := Lib.hid (S5.out.more n6); have O6 := Lib.hid (o6.more (Nat.zero_le _)); clear o6 n6; have hn8 : n8 = L := (by have := O6.out.len; rw [List.length_map, HBL.out] at this; omega); subst hn8)
          )
        go_loopw [11] (fun j w' => ∃ j' : Nat, j' ≤ N ∧ j = .int .i64 j' ∧ w' = w7) (fun j _ => N - (intOf j).toNat)
        case atStart => exact ⟨0, Nat.zero_le _, rfl, rfl⟩
        case round =>
          obtain ⟨j, hj, rfl, rfl⟩ := hrel
          by_cases hlj : j < N
          · have hh1 := T7.out.has j (by rw [L5.out]; exact hlj)
            have hh2 := S7.out.has j (by rw [L5.out]; exact hlj)
            obtain ⟨q, hq⟩ : ∃ q, bs.getD j false = q := ⟨_, rfl⟩
            rw [hq] at hh1 hh2
            have HH1 := Lib.hid hh1; have HH2 := Lib.hid hh2
            unfold pv at HH1 HH2
            clear hh1 hh2 hq
            go_wp2_with (first | ((with_reducible refine HH1.out.mono ?_); rintro e w8 ⟨rfl, rfl⟩) | ((with_reducible refine HH2.out.mono ?_); rintro e w8 ⟨rfl, rfl⟩))
            exact ⟨⟨j + 1, hlj, by go_num, by first | rfl | trivial⟩, by simp [intOf]; omega⟩
          · have hj' : N = j := by omega
            subst hj'
            go_wp2_with (first |
              (at_builtin; refine wpList_app1_own T28 _ _ rfl rfl rfl rfl OB9.out rfl (by unfold maxLen; omega) N9.out.size ?_; intro A10 c10 w10 o10 g10 e10; have O10 := Lib.hid o10; have N10 := Lib.hid (nw_of_gb N9.out g10 (fun x hx => OB9.out.blk x hx)); clear o10 g10 e10) |
              (at_builtin; refine wpList_app_lit T28 _ _ rfl rfl wr.heap.size rfl rfl O7.out.rd (Nat.le_refl _) (bv_one _) (by unfold maxLen; omega) (Nat.le_refl _) ?_; intro A9 c9 w9 o9 n9; have O9 := Lib.hid (o9.more (Nat.zero_le _)); have OB9 := Lib.hid o9; have N9 := Lib.hid n9; clear o9 n9))
            have hl10 : (bytesOf bs ++ [0]).map bv = (bytesOf bs).map bv ++ [Value.int .u8 0] := by rw [List.map_append]; rfl
            have HL10 := Lib.hid hl10; clear hl10
            have O11 := O10.out
            rw [← HL10.out] at O11
            have HO11 := Lib.hid O11; clear O11
            rcases (show 0 < N ∨ N = 0 from by omega) with h0 | h0
            · have hn0 := HL0.out h0
              have HF3 := Lib.hid (HF2.out hn0)
              have hcap := O7.out.cap.1
              go_wp2_with (first |
                ((with_reducible refine (of_form N (by omega) (by have := (O7.out.nw N12.out).rd.take (size := 1) (show n8 - 1 ≤ n8 by omega); rw [Nat.mul_one, ← List.map_take] at this; exact this) HF3.out).mono ?_); rintro e w13 ⟨rfl, n13⟩; have N13 := Lib.hid (gb_trans N12.out n13); clear n13) |
                (refine wpList_slice_hi' 28 5 Tryd.underlying28 i5 _ _ rfl rfl A8 n8 c8 (n8 - 1) _ rfl rfl (by omega) (by omega) ?_) |
                ((with_reducible refine (of_form N (by omega) HO11.out.rd HF1.out).mono ?_); rintro e w12 ⟨rfl, n12⟩; have N12 := Lib.hid (gb_trans N10.out n12); clear n12))
              go_ret
              exact ⟨rfl, S7.out.more N13.out |>.nw⟩
            · subst h0
              go_wp2_with ((with_reducible refine (of_form 0 (by omega) HO11.out.rd HF1.out).mono ?_); rintro e w12 ⟨rfl, n12⟩; have N12 := Lib.hid (gb_trans N10.out n12); clear n12)
              go_ret
              exact ⟨rfl, S7.out.more N12.out |>.nw⟩
end Go.Proofs.YtoinkofoaodkhaaDoor

