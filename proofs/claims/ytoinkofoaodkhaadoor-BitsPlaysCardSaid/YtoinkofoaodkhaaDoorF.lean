/- What bits' Of makes of bytes that are a map. -/
import Derived.Test.YtoinkofoaodkhaaDoorE
namespace Go.Proofs.YtoinkofoaodkhaaDoor
open Go.RowKit Go.BW Go.BW.Bit

def OfPost (bs : List Bool) (w : World) (e : Ending) (w' : World) : Prop := ∃ g, e = .returned (.tuple #[pv g, .int .i64 0]) ∧ BR w' g bs ∧ w.heap.size ≤ g ∧ Nw w w'
def OfRel (w : World) (g : Nat) (B : List Bool) (k : Nat) (wr : World) : Prop := BR wr g (upTo false B k) ∧ w.heap.size ≤ g ∧ Nw w wr
set_option maxRecDepth 100000 in
set_option maxHeartbeats 8000000 in
theorem of_ok {w : World} (N : Nat) (hN : N ≤ 65536) {B : Nat} {A : Option Addr} {m c : Nat} {l : List UInt8} (hr : Rd w B 1 A m (l.map bv)) (hB : B ≤ w.heap.size) (h : okB N l = true) : Calls Tryd.prog 13 #[.int .i64 N, .slice A m c] w (OfPost (bitsOf N l) w) := by
  have hl : l.length = m := by have := hr.1; simpa using this
  obtain ⟨L, hL⟩ : ∃ L, (N + 7) / 8 = L := ⟨_, rfl⟩
  obtain ⟨s, hs⟩ : ∃ s, N % 8 = s := ⟨_, rfl⟩
  have hL1 : ((N : Int) + 7) / 8 = (L : Int) := by omega
  have hs1 : (N : Int) % 8 = (s : Int) := by omega
  have hLN : N ≤ L * 8 := by omega
  have hs8 : s < 8 := by omega
  have hLs : s ≠ 0 → 0 < L := by omega
  unfold okB at h
  rw [hl, hL, hs] at h
  simp only [Bool.and_eq_true, decide_eq_true_eq, Bool.or_eq_true] at h
  obtain ⟨rfl, h⟩ := h
  have HNEW := Lib.hid (show ∀ w, Calls Tryd.prog 10 #[.int .i64 N] w (NewPost (List.replicate N false) w) from fun w => by have := new_any N w; rwa [show numN (N : Int) = N from by unfold numN; omega] at this)
  have HR := Lib.hid hr
  have HLL := Lib.hid hl
  have key : (s = 0 ∨ (s ≠ 0 ∧ ∃ b off y, A = some ⟨b, off, none⟩ ∧ w.cell? ⟨b, off + (m - 1), none⟩ = some (.int .u8 ((y : Nat) : Int)) ∧ ((y : Int) / 2 ^ s != 0) = false)) := by
    by_cases h0 : s = 0
    · exact .inl h0
    · right
      have hm0 := hLs h0
      obtain ⟨b, off, e, hz, hcu⟩ := hr.atB (show m - 1 < m by omega)
      refine ⟨h0, b, off, (l[m - 1]).toNat, e, hcu, ?_⟩
      have e1 : l.getD (m - 1) 0 = l[m - 1] := by rw [List.getD_eq_getElem?_getD, List.getElem?_eq_getElem hz]; rfl
      rw [e1] at h
      rcases h with h | h
      · exact absurd h h0
      · rw [shr_cast, h]; rfl
  have hbl : (bitsOf N l).length = N := bitsOf_len N l
  obtain ⟨Bs, hBs⟩ : ∃ Bs, bitsOf N l = Bs := ⟨_, rfl⟩
  have HBA := Lib.hid (show ∀ k (hk : k < Bs.length), Bs[k] = bitAt l k from by
    intro k hk; have h1 : k < N := (by rw [← hbl, hBs]; exact hk); have h2 : Bs[k]? = some (bitAt l k) := (by rw [← hBs]; unfold bitsOf; simp [h1]); rw [List.getElem?_eq_getElem hk] at h2; exact Option.some.inj h2)
  rw [hBs] at hbl ⊢
  have HBL := Lib.hid hbl
  clear h hr hl hL hs hBs hbl
  rcases key with h0 | ⟨h0, b, off, y, rfl, hcy, hy⟩
  · have b2 : ((s : Int) != 0) = false := by rw [h0]; rfl
    clear h0 hLs
    go_enter Tryd.func13, Tryd.ntmps13
    go_wp2_with (refine (HNEW.out _).mono ?_; rintro e w1 ⟨g, rfl, b1, hg, n1⟩; have B1 := Lib.hid b1; have HG := Lib.hid hg; have N1 := Lib.hid n1; clear b1 hg n1; unfold pv)
    go_loopw [40] (fun i wr => ∃ k : Nat, k ≤ N ∧ i = .int .i64 k ∧ OfRel w g Bs k wr) (fun i _ => N - (intOf i).toNat)
    case atStart => exact ⟨0, Nat.zero_le _, rfl, by rw [upTo_zero, HBL.out]; exact B1.out, HG.out, N1.out⟩
    case round =>
      obtain ⟨k, hk, rfl, hb, _, hnw⟩ := hrel
      have HB := Lib.hid hb; have HNW := Lib.hid hnw; clear hb hnw
      by_cases hlt : k < N
      · obtain ⟨b', off', e, hz, hcu⟩ := (HR.out.nw HNW.out hB).atB (show k / 8 < m by omega)
        first | subst e | (injection e with e; injection e with e1 e2; subst e1; subst e2)
        have hkm : k / 8 < m := by omega
        have hkm2 : (k : Int) / 8 < (m : Int) := by omega
        obtain ⟨y, hy⟩ : ∃ y, (l[k / 8]).toNat = y := ⟨_, rfl⟩
        rw [hy] at hcu
        have hy256 : y < 256 := by rw [← hy]; exact UInt8.toNat_lt _
        have hbit : (y >>> (k % 8)) &&& 1 = (bitAt l k).toNat := by
          rw [and_one, Nat.testBit_shiftRight, Nat.add_zero]
          unfold bitAt
          rw [List.getD_eq_getElem?_getD, List.getElem?_eq_getElem hz, ← hy]
          rfl
        have HE := Lib.hid (show bits BinOp.and .u8 ((y : Int) / 2 ^ (k % 8)) 1 = ((bitAt l k).toNat : Int) from by
          rw [shr_cast, and_u8_one _ (Nat.lt_of_le_of_lt (Nat.shiftRight_le _ _) hy256), hbit])
        have HKB := Lib.hid (show k < Bs.length from by rw [HBL.out]; exact hlt)
        have HBK := HBA.out k HKB.out
        obtain ⟨q, hq⟩ : ∃ q, bitAt l k = q := ⟨_, rfl⟩
        rw [hq] at HE HBK
        have HBQ := Lib.hid HBK
        clear hy hbit hq hz HBK hy256
        cases q with
        | false =>
          have HU := Lib.hid (upTo_same false Bs k HKB.out HBQ.out)
          have he : (bits BinOp.and .u8 ((y : Int) / 2 ^ (k % 8)) 1 == 1) = false := by rw [HE.out]; rfl
          go_wp2
          exact ⟨⟨k + 1, hlt, by go_num, by rw [← HU.out]; exact HB.out, HG.out, HNW.out⟩, by simp [intOf]; omega⟩
        | true =>
          have hset := upTo_set false Bs k HKB.out
          rw [HBQ.out] at hset
          have HTF := Lib.hid (show takeF (upTo false Bs k) (k : Int) = (0, upTo false Bs (k + 1)) from by
            unfold takeF inB
            rw [upTo_len _ _ _ (Nat.le_of_lt HKB.out), Int.toNat_natCast, if_neg (by simp; exact HKB.out), List.getD_eq_getElem?_getD, upTo_at _ _ _ HKB.out, if_neg (by decide), hset])
          clear hset
          have he : (bits BinOp.and .u8 ((y : Int) / 2 ^ (k % 8)) 1 == 1) = true := by rw [HE.out]; rfl
          go_wp2_with (refine (takeAt_any HB.out (k : Int)).mono ?_; rw [HTF.out]; rintro e w3 ⟨rfl, b3, c3⟩; have B3 := Lib.hid b3; have N3 := Lib.hid (nw_of_chg HNW.out c3 (by intro x hx; simp at hx; subst hx; exact HG.out)); clear b3 c3)
          exact ⟨⟨k + 1, hlt, by go_num, B3.out, HG.out, N3.out⟩, by simp [intOf]; omega⟩
      · have hk' : k = N := by omega
        subst hk'
        go_wp2
        go_ret2
        refine ⟨g, rfl, ?_, HG.out, HNW.out⟩
        have := HB.out
        rw [← HBL.out, upTo_all] at this
        exact this
  · have b2 : ((s : Int) != 0) = true := by simp; exact h0
    have hm0 := hLs h0
    have hm1 : (m : Int) - 1 < m := by omega
    clear h0 hLs
    go_enter Tryd.func13, Tryd.ntmps13
    go_wp2_with (refine (HNEW.out _).mono ?_; rintro e w1 ⟨g, rfl, b1, hg, n1⟩; have B1 := Lib.hid b1; have HG := Lib.hid hg; have N1 := Lib.hid n1; clear b1 hg n1; unfold pv)
    clear hcy hm1 hm0
    go_loopw [40] (fun i wr => ∃ k : Nat, k ≤ N ∧ i = .int .i64 k ∧ OfRel w g Bs k wr) (fun i _ => N - (intOf i).toNat)
    case atStart => exact ⟨0, Nat.zero_le _, rfl, by rw [upTo_zero, HBL.out]; exact B1.out, HG.out, N1.out⟩
    case round =>
      obtain ⟨k, hk, rfl, hb, _, hnw⟩ := hrel
      have HB := Lib.hid hb; have HNW := Lib.hid hnw; clear hb hnw
      by_cases hlt : k < N
      · obtain ⟨b', off', e, hz, hcu⟩ := (HR.out.nw HNW.out hB).atB (show k / 8 < m by omega)
        first | subst e | (injection e with e; injection e with e1 e2; subst e1; subst e2)
        have hkm : k / 8 < m := by omega
        have hkm2 : (k : Int) / 8 < (m : Int) := by omega
        obtain ⟨y, hy⟩ : ∃ y, (l[k / 8]).toNat = y := ⟨_, rfl⟩
        rw [hy] at hcu
        have hy256 : y < 256 := by rw [← hy]; exact UInt8.toNat_lt _
        have hbit : (y >>> (k % 8)) &&& 1 = (bitAt l k).toNat := by
          rw [and_one, Nat.testBit_shiftRight, Nat.add_zero]
          unfold bitAt
          rw [List.getD_eq_getElem?_getD, List.getElem?_eq_getElem hz, ← hy]
          rfl
        have HE := Lib.hid (show bits BinOp.and .u8 ((y : Int) / 2 ^ (k % 8)) 1 = ((bitAt l k).toNat : Int) from by
          rw [shr_cast, and_u8_one _ (Nat.lt_of_le_of_lt (Nat.shiftRight_le _ _) hy256), hbit])
        have HKB := Lib.hid (show k < Bs.length from by rw [HBL.out]; exact hlt)
        have HBK := HBA.out k HKB.out
        obtain ⟨q, hq⟩ : ∃ q, bitAt l k = q := ⟨_, rfl⟩
        rw [hq] at HE HBK
        have HBQ := Lib.hid HBK
        clear hy hbit hq hz HBK hy256
        cases q with
        | false =>
          have HU := Lib.hid (upTo_same false Bs k HKB.out HBQ.out)
          have he : (bits BinOp.and .u8 ((y : Int) / 2 ^ (k % 8)) 1 == 1) = false := by rw [HE.out]; rfl
          go_wp2
          exact ⟨⟨k + 1, hlt, by go_num, by rw [← HU.out]; exact HB.out, HG.out, HNW.out⟩, by simp [intOf]; omega⟩
        | true =>
          have hset := upTo_set false Bs k HKB.out
          rw [HBQ.out] at hset
          have HTF := Lib.hid (show takeF (upTo false Bs k) (k : Int) = (0, upTo false Bs (k + 1)) from by
            unfold takeF inB
            rw [upTo_len _ _ _ (Nat.le_of_lt HKB.out), Int.toNat_natCast, if_neg (by simp; exact HKB.out), List.getD_eq_getElem?_getD, upTo_at _ _ _ HKB.out, if_neg (by decide), hset])
          clear hset
          have he : (bits BinOp.and .u8 ((y : Int) / 2 ^ (k % 8)) 1 == 1) = true := by rw [HE.out]; rfl
          go_wp2_with (refine (takeAt_any HB.out (k : Int)).mono ?_; rw [HTF.out]; rintro e w3 ⟨rfl, b3, c3⟩; have B3 := Lib.hid b3; have N3 := Lib.hid (nw_of_chg HNW.out c3 (by intro x hx; simp at hx; subst hx; exact HG.out)); clear b3 c3)
          exact ⟨⟨k + 1, hlt, by go_num, B3.out, HG.out, N3.out⟩, by simp [intOf]; omega⟩
      · have hk' : k = N := by omega
        subst hk'
        go_wp2
        go_ret2
        refine ⟨g, rfl, ?_, HG.out, HNW.out⟩
        have := HB.out
        rw [← HBL.out, upTo_all] at this
        exact this
end Go.Proofs.YtoinkofoaodkhaaDoor

