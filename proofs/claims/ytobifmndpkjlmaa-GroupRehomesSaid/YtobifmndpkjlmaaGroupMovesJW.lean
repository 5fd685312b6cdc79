/- The law GroupMoves, walked: the next group has its disk. -/
import Derived.Test.YtobifmndpkjlmaaJM
set_option linter.unusedVariables false
set_option linter.unusedSimpArgs false
namespace Go.Proofs.Ytobifmndpkjlmaa
open Go.RowKit Go.BW

def mi : Option (Nat × Nat) → Int
  | none => 0
  | some (i, _) => i
def md : Option (Nat × Nat) → Int
  | none => 0
  | some (_, d) => d
def mb : Option (Nat × Nat) → Bool
  | none => false
  | some _ => true
theorem mv_eq (r : Option (Nat × Nat)) : mv r = .tuple #[.int .i64 (mi r), .int .i64 (md r), .bool (mb r)] := by
  rcases r with _ | ⟨i, d⟩ <;> rfl
theorem small_lo {zs : List Int} (h : ∀ z ∈ zs, -9223372036854775808 ≤ z ∧ z ≤ 9223372036854775807) : ∀ r ∈ smallP zs, -9223372036854775808 ≤ r := by
  intro r hr
  obtain ⟨x, hx, rfl⟩ := List.mem_map.1 hr
  have := (h x (List.mem_of_mem_take hx)).1
  omega
set_option maxHeartbeats 16000000 in
theorem gmoves_all {w : World} (A0 : Option Addr) (n0 c0 : Nat) (gs0 : List Gp) (h0 : InL w gc 3 (GIn w) A0 n0 c0 gs0) (A1 : Option Addr) (n1 c1 : Nat) (zs : List Int) (h1 : InI w A1 n1 c1 zs) (lost : Int) (_hl : -9223372036854775808 ≤ lost ∧ lost ≤ 9223372036854775807) :
    Calls Try.prog 4 #[.slice A0 n0 c0, .slice A1 n1 c1, .int .i64 lost] w (Ret (.bool true) w) := by
  obtain ⟨hgi, hn0⟩ := InL.gsi h0
  obtain ⟨hrz, _, hcm1, hlz, hzb⟩ := h1
  have hn1 : n1 ≤ 9223372036854775807 := by unfold maxLen at hcm1; omega
  have SH := Lib.hid (fun w' => shown_any w')
  have FW := Lib.hid (show ∀ w', Nw w w' → Calls Try.prog 14 #[.slice A0 n0 c0] w' (FewPost gs0 w') from fun w' hw => few_any (hgi.nw hw (Nat.le_refl _)) hw.size hn0)
  have SM := Lib.hid (show ∀ w', Nw w w' → Calls Try.prog 15 #[.slice A1 n1 c1] w' (RetOwn 3 1 ((smallP zs).map iv) w') from fun w' hw => small_any (hrz.nw hw (Nat.le_refl _)) hw.size hn1)
  have HLO := Lib.hid (small_lo hzb)
  unfold Ret at SH
  unfold RetOwn at SM
  unfold FewPost at FW
  clear hgi hn0 hrz hcm1 hlz hn1 h0 hzb
  go_enter Try.func4, Try.ntmps4
  go_upto_region 4 with (first
    | ((with_reducible refine (SM.out _ N2.out).mono ?_); rintro e w3 ⟨A3, n3, c3, rfl, o3, n23⟩; have N3 := Lib.hid (gb_trans N2.out n23))
    | ((with_reducible refine (FW.out _ n1').mono ?_); rintro e w2 ⟨A2, n2, c2, gs2, rfl, o2, g2, k2, n12⟩; have N2 := Lib.hid (gb_trans n1' n12))
    | ((with_reducible refine (SH.out _).mono ?_); rintro e w1 ⟨rfl, n1'⟩))
  have hrl : (smallP zs).length = n3 := by have := o3.len; simpa using this
  have hn8 : n3 ≤ 8 := by rw [← hrl]; exact smallP_len zs
  obtain ⟨ga, ha16, hac⟩ := few_gsr o2 g2 k2
  have GA := Lib.hid ((ga.nw n23 (Nat.le_refl _)).more n23.size)
  have RS := Lib.hid (show Rd w3 w3.heap.size 1 A3 n3 ((smallP zs).map iv) from o3.rd)
  have hM : ∀ r ∈ smallP zs, r ≤ 1000000 := fun r hr => Int.le_trans (smallP_le zs r hr) (by decide)
  have K2 := Lib.hid k2
  have HM := Lib.hid (show Calls Try.prog 16 #[.slice A2 n2 c2, .slice A3 n3 c3, .int .i64 lost] w3 (fun e w' => ∃ r, e = .returned (.tuple #[.int .i64 (mi r), .int .i64 (md r), .bool (mb r)]) ∧ MoveIs gs2 (smallP zs) lost r ∧ Nw w3 w') from
    (move_any stable_small GA.out hac RS.out (Nat.le_refl _) (by omega) (by omega) (by omega) hM HLO.out lost).mono fun e w' ⟨r, h1, h2, h3⟩ => ⟨r, by rw [h1, mv_eq], h2, h3⟩)
  have HRM := Lib.hid (show ∀ w5 A5 n5 c5 gs5, Nw w3 w5 → (∃ base, Own w5 base 37 3 A5 n5 c5 (fl gc gs5) ∧ GsO w5 base gs5) → gs5.map key = fewP gs0 →
      Calls Try.prog 17 #[.slice A5 n5 c5, .slice A3 n3 c3, .int .i64 lost] w5 (fun e w' => ∃ r, e = .returned (.tuple #[.int .i64 (mi r), .int .i64 (md r), .bool (mb r)]) ∧ MoveIs gs2 (smallP zs) lost r ∧ Nw w5 w') from by
    rintro w5 A5 n5 c5 gs5 hw ⟨base, o5, g5⟩ k5
    obtain ⟨gb, hb16, hbc⟩ := few_gsr o5 g5 k5
    exact (rmove_any gb hbc ((RS.out.nw hw (Nat.le_refl _)).more hw.size) (Nat.le_refl _) hn8 (by omega) hM HLO.out lost).mono fun e w' ⟨r, h1, h2, h3⟩ => ⟨r, by rw [h1, mv_eq], h2.es (key_es (k5.trans K2.out.symm)), h3⟩)
  have HNU := Lib.hid (show ∀ w' base A' n' c', Nw w3 w' → Own w' base 3 1 A' n' c' ((smallP zs).map iv) → Calls Try.prog 13 #[.slice A3 n3 c3, .slice A' n' c'] w' (Ret (.bool true) w') from fun w' base A' n' c' hw ho => by
    have := numbers_any (c := c3) (c' := c') (RS.out.nw hw (Nat.le_refl _)) ho.rd (by omega)
    rwa [show numB (smallP zs) (smallP zs) = true from numB_iff.2 rfl] at this)
  unfold Ret at HNU
  clear ga hM o2 g2 k2 o3 n12 n23 n1' SH hrl N2
  go_wp2_with (first
    | ((with_reducible refine (HNU.out _ _ _ _ _ (gb_trans m4 (gb_trans m5 (gb_trans m6 m7))) o7).mono ?_); rintro e w8 ⟨rfl, m8⟩)
    | ((with_reducible refine (SM.out _ (gb_trans N3.out (gb_trans m4 (gb_trans m5 m6)))).mono ?_); rintro e w7 ⟨A7, n7, c7, rfl, o7, m7⟩)
    | ((with_reducible refine (HRM.out _ _ _ _ _ (gb_trans m4 m5) ⟨_, o5, g5⟩ k5).mono ?_); rintro e w6 ⟨r6, rfl, hr6, m6⟩; obtain rfl := hr4.uniq hr6)
    | ((with_reducible refine (FW.out _ (gb_trans N3.out m4)).mono ?_); rintro e w5 ⟨A5, n5, c5, gs5, rfl, o5, g5, k5, m5⟩)
    | ((with_reducible refine HM.out.mono ?_); rintro e w4 ⟨r4, rfl, hr4, m4⟩))
  go_ret
  exact ⟨by first | rfl | simp, gb_trans N3.out (gb_trans m4 (gb_trans m5 (gb_trans m6 (gb_trans m7 m8))))⟩
end Go.Proofs.Ytobifmndpkjlmaa

