/- What Split returns, for all numbers and every slice of bytes. -/
import Derived.Test.YtlfkeohlnhlcoaaDoorPT
namespace Go.Proofs.YtlfkeohlnhlcoaaDoor
open Go.RowKit Go.BW

/-- a record's piece -/
def pieceL (bs : List UInt8) (i : Nat) : List UInt8 := (bs.drop (i * 53)).take 53
def secI (g n : Int) (N : Nat) (bs : List UInt8) (i : Nat) : List UInt8 := partL g n i N (pieceL bs i).length (pieceL bs i)
/-- the first k sectors of a record of N -/
def splitN (g n : Int) (N : Nat) (bs : List UInt8) : Nat → List UInt8
  | 0 => []
  | k + 1 => splitN g n N bs k ++ secI g n N bs k
theorem secI_len (g n : Int) (N : Nat) (bs : List UInt8) (i : Nat) : (secI g n N bs i).length = 64 := padL_len _
theorem splitN_len (g n : Int) (N : Nat) (bs : List UInt8) : ∀ k, (splitN g n N bs k).length = k * 64
  | 0 => rfl
  | k + 1 => by rw [splitN, List.length_append, splitN_len g n N bs k, secI_len]; omega
/-- may it be written so? -/
def splitB (g n : Int) (len : Nat) : Bool := partsZ len != 0 && numB g && numB n
def splitL (g n : Int) (bs : List UInt8) : List UInt8 := if splitB g n bs.length then splitN g n (partsZ bs.length).toNat bs (partsZ bs.length).toNat else []
def splitRow (g n : Int) (N : Nat) (bs : List UInt8) (k : Nat) : List Value := (splitN g n N bs k ++ List.replicate ((N - k) * 64) 0).map bv
theorem rep_add (a b : Nat) : List.replicate (a + b) (0 : UInt8) = List.replicate a 0 ++ List.replicate b 0 := by
  induction a with
  | zero => simp
  | succ a ih => rw [Nat.succ_add, List.replicate_succ, List.replicate_succ, ih]; rfl
theorem splice_mid {α : Type} (X Y Z c : List α) (h : c.length = Y.length) : splice (X ++ (Y ++ Z)) X.length c = X ++ c ++ Z := by
  unfold splice
  rw [List.take_left, ← List.drop_drop, List.drop_left, h, List.drop_left, List.append_assoc]
theorem splitRow_step (g n : Int) (N : Nat) (bs : List UInt8) (k : Nat) (h : k < N) : splice (splitRow g n N bs k) (k * 64) ((secI g n N bs k).map bv) = splitRow g n N bs (k + 1) := by
  unfold splitRow
  rw [show (N - k) * 64 = 64 + (N - (k + 1)) * 64 by omega, rep_add, splitN]
  simp only [List.map_append]
  have l1 : k * 64 = ((splitN g n N bs k).map bv).length := by rw [List.length_map, splitN_len]
  rw [l1]
  exact splice_mid _ _ _ _ (by rw [List.length_map, List.length_map, secI_len, List.length_replicate])
theorem made64 (n : Nat) : (madeCells z64.cells n).toList = (List.replicate n (0 : UInt8)).map bv := by
  apply List.ext_getElem?
  intro j
  by_cases hj : j < n
  · have h2 : j % 64 < 64 := Nat.mod_lt _ (by decide)
    simp [madeCells, z64, Value.cells, hj, h2, bv]
  · simp [madeCells, hj]
theorem splitRow_zero (g n : Int) (N : Nat) (bs : List UInt8) : (madeCells z64.cells (N * 64)).toList = splitRow g n N bs 0 := by
  rw [made64, splitRow, Nat.sub_zero, splitN, List.nil_append]
theorem splitRow_all (g n : Int) (N : Nat) (bs : List UInt8) : splitRow g n N bs N = (splitN g n N bs N).map bv := by
  rw [splitRow, Nat.sub_self, Nat.zero_mul, List.replicate_zero, List.append_nil]
theorem splitL_no {g n : Int} {bs : List UInt8} (h : splitB g n bs.length = false) : splitL g n bs = [] := by unfold splitL; rw [h]; rfl
theorem splitL_yes {g n : Int} {bs : List UInt8} {N : Nat} (h : splitB g n bs.length = true) (hN : partsZ bs.length = N) : splitL g n bs = splitN g n N bs N := by unfold splitL; rw [h, hN]; rfl
theorem splitB_iff (g n : Int) (len : Nat) : splitB g n len = true ↔ (partsZ len ≠ 0 ∧ (0 ≤ g ∧ g ≤ 4294967295) ∧ (0 ≤ n ∧ n ≤ 4294967295)) := by
  unfold splitB numB; simp only [Bool.and_eq_true, bne_iff_ne, decide_eq_true_eq, and_assoc]
theorem parts_room {len N k : Nat} (h : partsZ len = (N : Int)) (hk : k < N) : k * 53 ≤ len := by
  unfold partsZ at h; split at h <;> omega
theorem min_max_num (g nn : Int) : ((0 ≤ g ∧ g ≤ 4294967295) ∧ (0 ≤ nn ∧ nn ≤ 4294967295)) ↔ (0 ≤ (if nn < g then nn else g) ∧ (if g < nn then nn else g) ≤ 4294967295) := by
  rcases Int.lt_or_le nn g with h | h
  · rw [if_pos h, if_neg (by omega)]; omega
  · rw [if_neg (by omega)]; split <;> omega
theorem split_any {A : Option Addr} {n d : Nat} {bs : List UInt8} {w : World} {g nn : Int} (hr : Rd w w.heap.size 1 A n (bs.map bv)) (hd : n ≤ d) (hdm : d ≤ maxLen) :
    Calls Tryd.prog 11 #[.int .i64 g, .int .i64 nn, .slice A n d] w (RetOwn 35 64 ((splitL g nn bs).map bv) w) := by
  have hlen : bs.length = n := by have := hr.1; simpa using this
  have HP := Lib.hid (fun w' => parts_any (n : Int) w')
  have hno := @splitL_no g nn bs
  have hyes := @splitL_yes g nn bs
  have hbi := splitB_iff g nn bs.length
  have hrm := @parts_room n
  obtain ⟨N, hN⟩ : ∃ N : Nat, partsZ n = N := ⟨(partsZ n).toNat, by have := (partsZ_bd n).1; omega⟩
  have hN40 : N ≤ 40 := by have := (partsZ_bd n).2; omega
  rw [hlen, hN] at hbi
  rw [hlen] at hno hyes
  rw [hN] at HP
  obtain ⟨lo, hlo⟩ : ∃ lo : Int, (if nn < g then nn else g) = lo := ⟨_, rfl⟩
  obtain ⟨hi, hhi⟩ : ∃ hi : Int, (if g < nn then nn else g) = hi := ⟨_, rfl⟩
  have hcase : N = 0 ∨ (N ≠ 0 ∧ lo < 0) ∨ (N ≠ 0 ∧ 0 ≤ lo ∧ 4294967295 < hi) ∨ (N ≠ 0 ∧ 0 ≤ lo ∧ hi ≤ 4294967295) := by omega
  have hall : (0 ≤ g ∧ g ≤ 4294967295) ∧ (0 ≤ nn ∧ nn ≤ 4294967295) ↔ 0 ≤ lo ∧ hi ≤ 4294967295 := by
    rw [← hlo, ← hhi]; exact min_max_num g nn
  have HLO := Lib.hid hlo; have HHI := Lib.hid hhi
  clear hlo hhi
  rcases hcase with h0 | ⟨h0, h1⟩ | ⟨h0, h1, h2⟩ | ⟨h0, h1, h2⟩
  case inr.inr.inr =>
    obtain ⟨⟨g0, g1⟩, ⟨m0, m1⟩⟩ := hall.2 ⟨h1, h2⟩
    have H := Lib.hid (hyes (by rw [hbi, hall]; exact ⟨by omega, h1, h2⟩) hN)
    have b0 : ((N : Int) == 0) = false := by simp; omega
    have b1 : decide (lo < 0) = false := by simp; omega
    have b2 : decide (4294967295 < hi) = false := by simp; omega
    have HRM := Lib.hid (fun k => @hrm N k hN)
    have HR := Lib.hid hr; have HLEN := Lib.hid hlen
    clear hno hyes hbi hrm hall hN h1 h2 hr hlen
    go_enter Tryd.func11, Tryd.ntmps11
    go_wp2_with (first | (at_make; refine wpList_make T24 _ _ rfl rfl w.heap.size _ _ _ _ N rfl rfl rfl rfl (by unfold maxLen; omega) (Nat.le_refl _) ?_; intro y w1 a1 a2 a3) | (with_reducible refine (HP.out _).mono ?_; rintro e w' ⟨rfl, rfl⟩) | refine wpList_min_int _ _ _ rfl rfl g nn rfl rfl HLO.out ?_ | refine wpList_max_int _ _ _ rfl rfl g nn rfl rfl HHI.out ?_)
    rw [splitRow_zero g nn N bs] at a1
    go_loopw [32] (fun i wr => ∃ k : Nat, k ≤ N ∧ i = .int .i64 k ∧ Nw w wr ∧ Own wr w.heap.size 35 64 (some ⟨y, 0, none⟩) N N (splitRow g nn N bs k)) (fun i _ => N - (intOf i).toNat)
    case atStart => exact ⟨0, Nat.zero_le _, rfl, a2, a1⟩
    case round =>
      obtain ⟨k, hk, rfl, hnw, hown⟩ := hrel
      by_cases hlt : k < N
      · have hk53 := HRM.out k hlt
        obtain ⟨kh, hkh⟩ : ∃ kh : Nat, min n ((k + 1) * 53) = kh := ⟨_, rfl⟩
        have e1 : (k : Int) * 53 = ((k * 53 : Nat) : Int) := by omega
        have eh : (if ((k : Int) + 1) * 53 < (n : Int) then ((k : Int) + 1) * 53 else (n : Int)) = (kh : Int) := by split <;> omega
        have hk1 : k * 53 ≤ kh := by omega
        have hk2 : kh ≤ n := by omega
        have hkd : kh ≤ d := by omega
        have hp := ((HR.out.nw hnw (Nat.le_refl _)).more hnw.size).cut hk1 hk2 hd
        have epiece : ((bs.map bv).take (kh * 1)).drop (k * 53 * 1) = (pieceL bs k).map bv := by
          rw [Nat.mul_one, Nat.mul_one, ← List.map_take, ← List.map_drop]
          congr 1
          unfold pieceL
          rw [List.drop_take]
          by_cases hc : (k + 1) * 53 ≤ n
          · congr 1; omega
          · rw [List.take_of_length_le (by rw [List.length_drop, HLEN.out]; omega), List.take_of_length_le (by rw [List.length_drop, HLEN.out]; omega)]
        rw [epiece] at hp
        obtain ⟨A', hA⟩ : ∃ A', cutA A d (k * 53) 1 = A' := ⟨_, rfl⟩
        obtain ⟨d', hd'⟩ : ∃ d', d - k * 53 = d' := ⟨_, rfl⟩
        obtain ⟨m, hm⟩ : ∃ m, kh - k * 53 = m := ⟨_, rfl⟩
        rw [hA, hm] at hp
        have hpl : (pieceL bs k).length = m := by have := hp.1; simpa using this
        have hm53 : m ≤ 53 := by omega
        have HPT := Lib.hid (part_any (d := d') (A := A') (n := m) (w := wr) (ps := pieceL bs k) (g := g) (nn := nn) (a := k) (b := N) (c := m) (by omega) (by omega) (by omega) (by omega) (by omega) hp (by omega))
        have HA := Lib.hid hA; have HD := Lib.hid hd'; have HM := Lib.hid hm; have HEH := Lib.hid eh; have HE1 := Lib.hid e1; have HPL := Lib.hid hpl
        have hkN : (k : Int) < (N : Int) := by omega
        unfold tv at HPT
        clear hA hd' hm eh e1 hp epiece hkh hpl
        have hfit : k * 64 + ((partL g nn k N m (pieceL bs k)).map bv).length ≤ N * 64 := by rw [List.length_map, partL, padL_len]; omega
        have hsz : (Tryd.prog.info? 35).map (·.size) = some ((partL g nn k N m (pieceL bs k)).map bv).length := by rw [List.length_map, partL, padL_len]; kernel_rfl
        have HB := Lib.hid (bv_one (partL g nn k N m (pieceL bs k)))
        obtain ⟨L, hL⟩ : ∃ L, (partL g nn k N m (pieceL bs k)).map bv = L := ⟨_, rfl⟩
        rw [hL] at HPT HB hfit hsz
        have HL := Lib.hid hL; clear hL
        go_wp2_with (first | (refine wpList_store_own (cs := L) (off := k * 64) 35 _ _ rfl rfl rfl rfl rfl hsz HB.out (hown.nw n2) hfit ?_; intro w3 o3 m3) | ((with_reducible refine HPT.out.mono ?_); rintro e w2 ⟨rfl, n2⟩) | refine wpList_slice_lh 22 5 Tryd.underlying22 1 (by kernel_rfl) _ _ _ rfl rfl A n d (k * 53) kh _ _ rfl rfl rfl HE1.out rfl hk1 hkd HA.out HM.out HD.out ?_ | refine wpList_min_int _ _ _ rfl rfl (n : Int) (((k : Int) + 1) * 53) rfl rfl HEH.out ?_)
        go_roundw
        case rel =>
          refine ⟨k + 1, by omega, by go_num, nw_of_gb (gb_trans hnw n2) m3 (fun r hr => by injection hr with hr; subst hr; exact a3), ?_⟩
          rw [← splitRow_step g nn N bs k hlt, show (secI g nn N bs k).map bv = L from by unfold secI; rw [HPL.out]; exact HL.out]
          exact o3
        case measure => simp only [intOf]; omega
      · have hkN : k = N := by omega
        subst hkN
        rw [splitRow_all, ← H.out] at hown
        go_wp2
        go_ret
        exact ⟨_, _, _, rfl, hown, hnw⟩
  all_goals
    have H := Lib.hid (hno (by rw [← Bool.not_eq_true, hbi, hall]; omega))
    clear hno hyes hbi hrm hall
  · have b0 : ((N : Int) == 0) = true := by simp; omega
    go_enter Tryd.func11, Tryd.ntmps11
    go_wp2_with (with_reducible refine (HP.out _).mono ?_; rintro e w' ⟨rfl, rfl⟩)
    go_ret
    exact ⟨_, _, _, rfl, by rw [H.out]; exact Own.nil, Nw.refl _⟩
  · have b0 : ((N : Int) == 0) = false := by simp; omega
    go_enter Tryd.func11, Tryd.ntmps11
    go_wp2_with (first | (with_reducible refine (HP.out _).mono ?_; rintro e w' ⟨rfl, rfl⟩) | refine wpList_min_int _ _ _ rfl rfl g nn rfl rfl HLO.out ?_)
    go_ret
    exact ⟨_, _, _, rfl, by rw [H.out]; exact Own.nil, Nw.refl _⟩
  · have b0 : ((N : Int) == 0) = false := by simp; omega
    have b1 : decide (lo < 0) = false := by simp; omega
    go_enter Tryd.func11, Tryd.ntmps11
    go_wp2_with (first | (with_reducible refine (HP.out _).mono ?_; rintro e w' ⟨rfl, rfl⟩) | refine wpList_min_int _ _ _ rfl rfl g nn rfl rfl HLO.out ?_ | refine wpList_max_int _ _ _ rfl rfl g nn rfl rfl HHI.out ?_)
    go_ret
    exact ⟨_, _, _, rfl, by rw [H.out]; exact Own.nil, Nw.refl _⟩
end Go.Proofs.YtlfkeohlnhlcoaaDoor

