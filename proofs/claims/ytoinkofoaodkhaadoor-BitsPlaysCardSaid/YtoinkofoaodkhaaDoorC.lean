/- What bits' Next returns; the library's TrailingZeros64. -/
import Derived.Test.YtoinkofoaodkhaaDoorB
import Derived.Test.YtoinkofoaodkhaaDoorCut
namespace Go.Proofs.YtoinkofoaodkhaaDoor
open Go.RowKit Go.BW Go.BW.Bit

/-- the library's table lies where it was laid -/
def Tab (w : World) : Prop := ∀ j, j < 64 → w.cell? ⟨0, j, none⟩ = some (.int .u8 (Lib.deBruijn64tab.getD j 0 : Nat))
theorem Tab.nw {w w' : World} (h : Tab w) (k : Nw w w') : Tab w' := fun j hj => by
  have h0 := World.block_lt_of_cell? w _ (h j hj)
  rw [← h j hj]
  exact World.cell?_of_block (k.block 0 h0 (by simp))
theorem tz_key (x a : Nat) (hx : x < 18446744073709551616) (hlow : x &&& (18446744073709551616 - x) = a) (h0 : x ≠ 0) :
    IntKind.u64.wrap (bits BinOp.and IntKind.u64 (x : Int) (IntKind.u64.wrap (-(x : Int))) * 285870213051353865) / 288230376151711744 = ((a * 285870213051353865 % 18446744073709551616 / 288230376151711744 : Nat) : Int) := by
  have e1 : IntKind.u64.wrap (-(x : Int)) = ((18446744073709551616 - x : Nat) : Int) := by rw [IntKind.wrap_u64]; omega
  rw [e1, bits_and_u64_nat x _ hx (by omega), hlow, IntKind.wrap_u64]
  omega
set_option maxHeartbeats 1000000 in
theorem tz_any {w : World} (ht : Tab w) (x : Nat) (hx : x < 18446744073709551616) : Calls Tryd.prog 28 #[.int .u64 x] w fun e w' => e = .returned (.int .i64 (Lib.ctz 64 x : Nat)) ∧ w = w' := by
  by_cases h0 : x = 0
  · subst h0
    go_enter Tryd.func28, Tryd.ntmps28
    go_wp2
    go_ret
    exact ⟨rfl, rfl⟩
  · obtain ⟨hlow, hk⟩ := Lib.lowest_bit 64 x h0 hx
    obtain ⟨hi, htab⟩ := Lib.deBruijn64_at _ hk
    have hcell := ht _ hi
    rw [htab] at hcell
    have key := tz_key x _ hx hlow h0
    have b0 : ((x : Int) == 0) = false := by rw [beq_eq_false_iff_ne]; omega
    obtain ⟨idx, hidx⟩ : ∃ idx, 2 ^ Lib.ctz 64 x * 285870213051353865 % 18446744073709551616 / 288230376151711744 = idx := ⟨_, rfl⟩
    obtain ⟨k, hkk⟩ : ∃ k, Lib.ctz 64 x = k := ⟨_, rfl⟩
    rw [hkk] at hidx key hcell hk hi ⊢
    rw [hidx] at hi hcell key
    clear hlow htab hidx hkk hx h0 ht
    go_enter Tryd.func28, Tryd.ntmps28
    go_wp2_with (simp only [key])
    go_ret
    exact ⟨rfl, rfl⟩
theorem not_u64 (W : Nat) (h : W < 18446744073709551616) : bits .xor .u64 IntKind.u64.max (W : Int) = ((18446744073709551615 - W : Nat) : Int) := by
  have h1 : (BitVec.ofInt 64 (W : Int)).toNat = W := by
    rw [BitVec.ofInt_natCast, BitVec.toNat_ofNat]; exact Nat.mod_eq_of_lt (by omega)
  show IntKind.u64.wrap ((BitVec.ofInt 64 IntKind.u64.max ^^^ BitVec.ofInt 64 (W : Int)).toNat : Int) = _
  have h2 : BitVec.ofInt 64 IntKind.u64.max = BitVec.allOnes 64 := by decide
  rw [h2, BitVec.allOnes_xor, BitVec.toNat_not, h1, IntKind.wrap_u64]
  omega
theorem shl_all (s : Nat) (_hs : s < 64) : IntKind.u64.wrap (18446744073709551615 * 2 ^ s) = (((18446744073709551615 <<< s) % 18446744073709551616 : Nat) : Int) := by
  have e : (18446744073709551615 * 2 ^ s : Int) = ((18446744073709551615 <<< s : Nat) : Int) := by rw [Nat.shiftLeft_eq, Int.natCast_mul, Int.natCast_pow]; rfl
  rw [e, IntKind.wrap_u64]
  omega
def nextV (bs : List Bool) (f : Int) : Value := match nxt bs f.toNat with | some i => .tuple #[.int .i64 (i : Nat), .bool true] | none => .tuple #[.int .i64 0, .bool false]
def NextRel (w : World) (bs : List Bool) (F k : Nat) (wr : World) : Prop := F / 64 ≤ k ∧ (∀ j, F ≤ j → j < 64 * k → j < bs.length → bs.getD j false = true) ∧ wr = w
set_option maxRecDepth 100000 in
set_option maxHeartbeats 4000000 in
theorem next_any {w : World} {g : Nat} {bs : List Bool} (h : BR w g bs) (ht : Tab w) (f : Int) (hf : f ≤ 9223372036854775807) : Calls Tryd.prog 16 #[pv g, .int .i64 f] w fun e w' => e = .returned (nextV bs f) ∧ w = w' := by
  unfold nextV
  have hmx : (if f < 0 then (0 : Int) else f) = (f.toNat : Int) := by split <;> omega
  obtain ⟨F, hF⟩ : ∃ F, f.toNat = F := ⟨_, rfl⟩
  rw [hF] at hmx ⊢
  have hF2 : F ≤ 9223372036854775807 := by omega
  have HB := Lib.hid h; have HT := Lib.hid ht; have HMX := Lib.hid hmx
  have hn := h.n
  obtain ⟨N, hN⟩ : ∃ N, bs.length = N := ⟨_, rfl⟩
  have hN2 := h.2
  rw [hN] at hn hN2
  have HN := Lib.hid hN
  clear h ht hmx hF hN hf
  unfold pv
  obtain ⟨S, hS⟩ : ∃ S, F / 64 = S := ⟨_, rfl⟩
  obtain ⟨s, hs⟩ : ∃ s, F % 64 = s := ⟨_, rfl⟩
  have hS1 : (F : Int) / 64 = (S : Int) := by omega
  have hs1 : (F : Int) % 64 = (s : Int) := by omega
  have hs2 : s < 64 := by omega
  have HS := Lib.hid hS; have HSS := Lib.hid hs
  clear hS hs
  obtain ⟨R, hR⟩ : ∃ R : Value, (match nxt bs F with | some i => Value.tuple #[.int .i64 (i : Nat), .bool true] | none => Value.tuple #[.int .i64 0, .bool false]) = R := ⟨_, rfl⟩
  rw [hR]
  have HRR := Lib.hid hR; clear hR
  go_enter Tryd.func16, Tryd.ntmps16
  go_wp2_with (refine wpList_max_int _ _ _ rfl rfl f 0 rfl rfl HMX.out ?_)
  go_loopw [6] (fun i wr => ∃ k : Nat, i = .int .i64 k ∧ NextRel w bs F k wr) (fun i _ => 1024 - (intOf i).toNat)
  case atStart => exact ⟨S, rfl, by rw [HS.out]; exact Nat.le_refl _, fun j h1 h2 _ => by have := HS.out; omega, rfl⟩
  case round =>
    obtain ⟨k, rfl, hk1, hk2, rfl⟩ := hrel
    have HK1 := Lib.hid hk1; have HK2 := Lib.hid hk2; clear hk2
    rw [HS.out] at hk1
    rcases (show (k < 1024 ∧ k * 64 < N) ∨ (k < 1024 ∧ ¬ k * 64 < N) ∨ ¬ k < 1024 from by omega) with ⟨h1, h2⟩ | ⟨h1, h2⟩ | h1
    · have hw := HB.out.word h1
      have hlt := word_lt bs k
      obtain ⟨W, hW⟩ : ∃ W, word bs k = W := ⟨_, rfl⟩
      rw [hW] at hw hlt
      have HW := Lib.hid hW; clear hW
      have b1 : (k : Int) < 1024 := by omega
      have b2 : (k : Int) * 64 < N := by omega
      by_cases hkS : k = S
      · subst hkS
        obtain ⟨FW, hFW⟩ : ∃ FW, freeW bs F k = FW := ⟨_, rfl⟩
        have hFlt := freeW_lt bs F k
        rw [hFW] at hFlt
        obtain ⟨c, hc⟩ : ∃ c, Lib.ctz 64 FW = c := ⟨_, rfl⟩
        have HTZ := Lib.hid (tz_any HT.out FW hFlt)
        rw [hc] at HTZ
        have hc64 : c ≤ 64 := by
          rw [← hc]
          by_cases h0 : FW = 0
          · rw [h0]; decide
          · exact Nat.le_of_lt (ctz_least h0 hFlt).2.2
        have HE := Lib.hid (show bits BinOp.and .u64 (bits BinOp.xor .u64 IntKind.u64.max (W : Int)) (IntKind.u64.wrap (18446744073709551615 * 2 ^ s)) = (FW : Int) from by
          rw [not_u64 W hlt, shl_all s hs2, bits_and_u64_nat _ _ (by omega) (Nat.mod_lt _ (by decide)), ← hFW]
          unfold freeW
          rw [if_pos HS.out.symm, HW.out, HSS.out])
        have HZERO := Lib.hid (fun (h : FW = 0) => next_zero HK1.out (hFW.trans h) HK2.out)
        have HHIT := Lib.hid (fun (h : FW ≠ 0) => next_hit HK1.out (by rw [hFW]; exact h) HK2.out)
        rw [hFW, hc] at HHIT
        clear hFW hFlt hc hlt
        rcases (show FW = 0 ∨ (FW ≠ 0 ∧ 64 * k + c < N) ∨ (FW ≠ 0 ∧ ¬ 64 * k + c < N) from by omega) with h0 | ⟨h0, h3⟩ | ⟨h0, h3⟩
        · have b3 : ((FW : Int) != 0) = false := by rw [h0]; rfl
          have HN2 := Lib.hid (HZERO.out h0)
          clear h0
          go_wp2_with (rw [HE.out]; refine HTZ.out.mono ?_; rintro e w5 ⟨rfl, rfl⟩)
          exact ⟨⟨k + 1, by go_num, by have := HK1.out; omega, HN2.out, rfl⟩, by simp [intOf]; omega⟩
        · have b3 : ((FW : Int) != 0) = true := by simp; exact h0
          have b4 : (k : Int) * 64 + (c : Int) < (N : Int) := by omega
          have HN2 := Lib.hid ((HHIT.out h0).1 (by rw [HN.out]; exact h3))
          clear h0
          go_wp2_with (rw [HE.out]; refine HTZ.out.mono ?_; rintro e w5 ⟨rfl, rfl⟩)
          go_ret2
          refine ⟨?_, rfl⟩
          rw [← HRR.out, HN2.out]
          simp
          omega
        · have b3 : ((FW : Int) != 0) = true := by simp; exact h0
          have b4 : ¬ ((k : Int) * 64 + (c : Int) < (N : Int)) := by omega
          have HN2 := Lib.hid ((HHIT.out h0).2 (by rw [HN.out]; exact h3))
          clear h0
          go_wp2_with (rw [HE.out]; refine HTZ.out.mono ?_; rintro e w5 ⟨rfl, rfl⟩)
          exact ⟨⟨k + 1, by go_num, by have := HK1.out; omega, HN2.out, rfl⟩, by simp [intOf]; omega⟩
      · have hk3 := hkS
        obtain ⟨FW, hFW⟩ : ∃ FW, freeW bs F k = FW := ⟨_, rfl⟩
        have hFlt := freeW_lt bs F k
        rw [hFW] at hFlt
        obtain ⟨c, hc⟩ : ∃ c, Lib.ctz 64 FW = c := ⟨_, rfl⟩
        have HTZ := Lib.hid (tz_any HT.out FW hFlt)
        rw [hc] at HTZ
        have hc64 : c ≤ 64 := by
          rw [← hc]
          by_cases h0 : FW = 0
          · rw [h0]; decide
          · exact Nat.le_of_lt (ctz_least h0 hFlt).2.2
        have HE := Lib.hid (show bits BinOp.xor .u64 IntKind.u64.max (W : Int) = (FW : Int) from by
          rw [not_u64 W hlt, ← hFW]
          unfold freeW
          rw [if_neg (by rw [HS.out]; exact hkS), HW.out])
        have HZERO := Lib.hid (fun (h : FW = 0) => next_zero HK1.out (hFW.trans h) HK2.out)
        have HHIT := Lib.hid (fun (h : FW ≠ 0) => next_hit HK1.out (by rw [hFW]; exact h) HK2.out)
        rw [hFW, hc] at HHIT
        have b5 : ((k : Int) == (S : Int)) = false := (by rw [beq_eq_false_iff_ne]; omega)
        have b6 : (k == S) = false := (by simpa using hkS)
        clear hFW hFlt hc hlt hkS
        rcases (show FW = 0 ∨ (FW ≠ 0 ∧ 64 * k + c < N) ∨ (FW ≠ 0 ∧ ¬ 64 * k + c < N) from by omega) with h0 | ⟨h0, h3⟩ | ⟨h0, h3⟩
        · have b3 : ((FW : Int) != 0) = false := by rw [h0]; rfl
          have HN2 := Lib.hid (HZERO.out h0)
          clear h0
          go_wp2_with (rw [HE.out]; refine HTZ.out.mono ?_; rintro e w5 ⟨rfl, rfl⟩)
          exact ⟨⟨k + 1, by go_num, by have := HK1.out; omega, HN2.out, rfl⟩, by simp [intOf]; omega⟩
        · have b3 : ((FW : Int) != 0) = true := by simp; exact h0
          have b4 : (k : Int) * 64 + (c : Int) < (N : Int) := by omega
          have HN2 := Lib.hid ((HHIT.out h0).1 (by rw [HN.out]; exact h3))
          clear h0
          go_wp2_with (rw [HE.out]; refine HTZ.out.mono ?_; rintro e w5 ⟨rfl, rfl⟩)
          go_ret2
          refine ⟨?_, rfl⟩
          rw [← HRR.out, HN2.out]
          simp
          omega
        · have b3 : ((FW : Int) != 0) = true := by simp; exact h0
          have b4 : ¬ ((k : Int) * 64 + (c : Int) < (N : Int)) := by omega
          have HN2 := Lib.hid ((HHIT.out h0).2 (by rw [HN.out]; exact h3))
          clear h0
          go_wp2_with (rw [HE.out]; refine HTZ.out.mono ?_; rintro e w5 ⟨rfl, rfl⟩)
          exact ⟨⟨k + 1, by go_num, by have := HK1.out; omega, HN2.out, rfl⟩, by simp [intOf]; omega⟩
    · have b1 : (k : Int) < 1024 := by omega
      have b2 : ¬ ((k : Int) * 64 < N) := by omega
      have HN2 := Lib.hid (next_end (by rw [HN.out]; omega) HK2.out)
      go_wp2
      go_ret2
      exact ⟨by rw [← HRR.out, HN2.out]; rfl, rfl⟩
    · have b1 : ¬ ((k : Int) < 1024) := by omega
      have HN2 := Lib.hid (next_end (by rw [HN.out]; omega) HK2.out)
      go_wp2
      go_ret2
      exact ⟨by rw [← HRR.out, HN2.out]; rfl, rfl⟩
end Go.Proofs.YtoinkofoaodkhaaDoor

