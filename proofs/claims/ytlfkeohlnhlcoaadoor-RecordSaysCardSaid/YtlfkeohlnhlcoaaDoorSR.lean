/- What the reference's Split returns, for all numbers and every string of bytes: the same. -/
import Derived.Test.YtlfkeohlnhlcoaaDoorSP
import Derived.Test.YtlfkeohlnhlcoaaDoorStr
namespace Go.Proofs.YtlfkeohlnhlcoaaDoor
open Go.RowKit Go.BW

theorem splitB_cases (g n : Int) {len : Nat} {N : Nat} (h : partsZ len = (N : Int)) : splitB g n len = (N != 0 && numB g && numB n) := by
  unfold splitB; rw [h]; congr 2; rw [Bool.eq_iff_iff]; simp
theorem headL_len {g n : Int} (a b c : Nat) : (headL g n a b c).length ≤ 15 := by
  have h1 := putL_len [] g 4
  have h2 := putL_len (putL [] g 4) n 4
  unfold headL
  rw [List.length_append]
  simp at h1 ⊢; omega
set_option maxHeartbeats 4000000 in
theorem rsplit_any {bs : List UInt8} {w : World} {g nn : Int} (hsm : bs.length ≤ 1000000000) (hg : g ≤ 9223372036854775807) (hn : nn ≤ 9223372036854775807) :
    Calls Tryd.prog 13 #[.int .i64 g, .int .i64 nn, .string ⟨bs.toArray⟩] w (RetOwn 35 64 ((splitL g nn bs).map bv) w) := by
  obtain ⟨n, hlen⟩ : ∃ n, bs.length = n := ⟨_, rfl⟩
  have HP := Lib.hid (fun w' => rparts_any (n : Int) w')
  have HG := Lib.hid (fun w' => number_any g w')
  have HM := Lib.hid (fun w' => number_any nn w')
  have hno := @splitL_no g nn bs
  have hyes := @splitL_yes g nn bs
  have hrm := @parts_room n
  obtain ⟨N, hN⟩ : ∃ N : Nat, partsZ n = N := ⟨(partsZ n).toNat, by have := (partsZ_bd n).1; omega⟩
  have hN40 : N ≤ 40 := by have := (partsZ_bd n).2; omega
  have hbi := splitB_cases g nn hN
  have hss : (ByteArray.mk bs.toArray).size = n := by show bs.toArray.size = n; simpa using hlen
  rw [hlen] at hno hyes hsm
  rw [hN] at HP
  obtain ⟨i0, hi0, hz0, hs0, _⟩ := T24.info
  have H0 := Lib.hid hi0; have HZ := Lib.hid hz0
  clear hi0 hz0 hs0
  rcases (show N = 0 ∨ N ≠ 0 from by omega) with h0 | h0
  · have H := Lib.hid (hno (by rw [hbi, h0]; rfl))
    have b0 : ((N : Int) == 0) = true := by simp; omega
    clear hno hyes hbi hrm hN
    go_enter Tryd.func13, Tryd.ntmps13
    go_wp2_with (first | ((with_reducible refine (HP.out _).mono ?_); rintro e w' ⟨rfl, rfl⟩))
    go_ret
    exact ⟨_, _, _, rfl, by rw [H.out]; exact Own.nil, Nw.refl _⟩
  have b0 : ((N : Int) == 0) = false := by simp; omega
  rcases hgb : numB g with _ | _
  · have H := Lib.hid (hno (by rw [hbi, hgb]; simp))
    rw [hgb] at HG
    clear hno hyes hbi hrm hN
    go_enter Tryd.func13, Tryd.ntmps13
    go_wp2_with (first | ((with_reducible refine (HP.out _).mono ?_); rintro e w' ⟨rfl, rfl⟩) | ((with_reducible refine (HG.out _).mono ?_); rintro e w' ⟨rfl, rfl⟩))
    go_ret
    exact ⟨_, _, _, rfl, by rw [H.out]; exact Own.nil, Nw.refl _⟩
  rcases hmb : numB nn with _ | _
  · have H := Lib.hid (hno (by rw [hbi, hmb]; simp))
    rw [hgb] at HG
    rw [hmb] at HM
    clear hno hyes hbi hrm hN
    go_enter Tryd.func13, Tryd.ntmps13
    go_wp2_with (first | ((with_reducible refine (HP.out _).mono ?_); rintro e w' ⟨rfl, rfl⟩) | ((with_reducible refine (HM.out _).mono ?_); rintro e w' ⟨rfl, rfl⟩) | ((with_reducible refine (HG.out _).mono ?_); rintro e w' ⟨rfl, rfl⟩))
    go_ret
    exact ⟨_, _, _, rfl, by rw [H.out]; exact Own.nil, Nw.refl _⟩
  have H := Lib.hid (hyes (by rw [hbi, hgb, hmb]; simpa using h0) hN)
  rw [hgb] at HG
  rw [hmb] at HM
  have HRM := Lib.hid (fun k => @hrm N k hN)
  have HLEN := Lib.hid hlen
  clear hno hyes hbi hrm hN hgb hmb hlen
  go_enter Tryd.func13, Tryd.ntmps13
  go_wp2_with (first | ((with_reducible refine (HP.out _).mono ?_); rintro e w' ⟨rfl, rfl⟩) | ((with_reducible refine (HM.out _).mono ?_); rintro e w' ⟨rfl, rfl⟩) | ((with_reducible refine (HG.out _).mono ?_); rintro e w' ⟨rfl, rfl⟩))
  go_loopw [8, 9] (fun s i wr => ∃ (k : Nat) (A : Option Addr) (c : Nat), k ≤ N ∧ i = .int .i64 k ∧ s = .slice A k c ∧ Nw w wr ∧ Own wr w.heap.size 35 64 A k c ((splitN g nn N bs k).map bv)) (fun _ i _ => N - (intOf i).toNat)
  case atStart => exact ⟨0, _, _, Nat.zero_le _, rfl, rfl, Nw.refl _, Own.nil⟩
  case round =>
    obtain ⟨k, A, ca, hk, rfl, rfl, hnw, hown⟩ := hrel
    by_cases hlt : k < N
    · have hk53 := HRM.out k hlt
      obtain ⟨kh, hkh⟩ : ∃ kh : Nat, min n ((k + 1) * 53) = kh := ⟨_, rfl⟩
      have e1 : (k : Int) * 53 = ((k * 53 : Nat) : Int) := by omega
      have eh : (if ((k : Int) + 1) * 53 < (n : Int) then ((k : Int) + 1) * 53 else (n : Int)) = (kh : Int) := by split <;> omega
      have hk1 : k * 53 ≤ kh := by omega
      have hk2 : kh ≤ bs.length := by rw [HLEN.out]; omega
      have epiece : (bs.take kh).drop (k * 53) = pieceL bs k := by
        unfold pieceL
        rw [List.drop_take]
        by_cases hc : (k + 1) * 53 ≤ n
        · congr 1; omega
        · rw [List.take_of_length_le (by rw [List.length_drop, HLEN.out]; omega), List.take_of_length_le (by rw [List.length_drop, HLEN.out]; omega)]
      have hpl : (pieceL bs k).length ≤ 53 := by unfold pieceL; rw [List.length_take]; omega
      obtain ⟨m, hm⟩ : ∃ m, (pieceL bs k).length = m := ⟨_, rfl⟩
      have hsec : partL g nn k N m (pieceL bs k) = secI g nn N bs k := by unfold secI; rw [hm]
      obtain ⟨ps, hps⟩ : ∃ ps, pieceL bs k = ps := ⟨_, rfl⟩
      rw [hps] at epiece hpl hm hsec
      have hpsz : (ByteArray.mk ps.toArray).size = m := by show ps.toArray.size = m; simpa using hm
      rw [hm] at hpl
      clear hps
      have ek : (k : Int) % 256 = k := by omega
      have eN : (N : Int) % 256 = N := by omega
      have em : (m : Int) % 256 = m := by omega
      have HLIT := Lib.hid (fun w' : World => show Rd (w'.alloc (.cells #[.int .u8 (k : Int), .int .u8 (N : Int), .int .u8 (m : Int)] 5)) (w'.heap.size + 1) 1 (some ⟨w'.heap.size, 0, none⟩) 3 ([UInt8.ofNat k, UInt8.ofNat N, UInt8.ofNat m].map bv) from by
        have := rd_lit (w0 := w') [Value.int .u8 (k : Int), .int .u8 (N : Int), .int .u8 (m : Int)] 5 3 rfl
        rw [byte_lit (by omega), byte_lit (by omega), byte_lit (by omega)] at this ⊢
        exact this)
      have HP1 := Lib.hid (fun w' => rput_any [] g 4 w' (by simp) hg)
      have HP2 := Lib.hid (fun w' => rput_any (putL [] g 4) nn 4 w' (by have := putL_len [] g 4; simp at this; omega) hn)
      obtain ⟨hd, hhd⟩ : ∃ hd, putL (putL [] g 4) nn 4 = hd := ⟨_, rfl⟩
      rw [hhd] at HP2
      have hhl : hd.length ≤ 12 := by rw [← hhd]; have h1 := putL_len [] g 4; have h2 := putL_len (putL [] g 4) nn 4; simp at h1; omega
      have ehd : hd ++ [UInt8.ofNat k, UInt8.ofNat N, UInt8.ofNat m] = headL g nn k N m := by unfold headL; rw [hhd]
      have hhl2 : (headL g nn k N m).length ≤ 15 := headL_len _ _ _
      have HED := Lib.hid ehd; have HEH := Lib.hid eh; have HE1 := Lib.hid e1; have HEP := Lib.hid epiece; have HSEC := Lib.hid hsec; have HML := Lib.hid hm
      have hkN : (k : Int) < (N : Int) := by omega
      clear ehd eh e1 epiece hsec hhd hkh hm
      unfold Ret at HP1 HP2
      have HLL := Lib.hid (show ((secI g nn N bs k).map bv).length = 64 by rw [List.length_map, secI_len])
      have HB := Lib.hid (bv_one (secI g nn N bs k))
      have HSL := Lib.hid (show splice z64.cells.toList 0 (((headL g nn k N m ++ ps).take 64).map bv) = (secI g nn N bs k).map bv by rw [z64_list, List.map_take, padL_splice, ← HSEC.out]; rfl)
      have hrow : (splitN g nn N bs k).map bv ++ (secI g nn N bs k).map bv = (splitN g nn N bs (k + 1)).map bv := by rw [splitN, List.map_append]
      have HRW := Lib.hid hrow; clear hrow
      obtain ⟨L, hL⟩ : ∃ L, (secI g nn N bs k).map bv = L := ⟨_, rfl⟩
      rw [hL] at HLL HB HSL HRW
      clear hL
      have HC := Lib.hid (fun (w' : World) (y : Nat) (h : Own w' w.heap.size 35 64 (some ⟨y, 0, none⟩) 1 1 L) => show ∀ j u, L[j]? = some u → w'.cell? ⟨y, 0 + j, none⟩ = some u from by
        intro j u hu; rw [Nat.zero_add, h.row1'.cell j]; simpa using hu)
      have hya : ∀ {w2 : World} {o : Obj} {y : Nat}, (w2.alloc o).heap.size ≤ y → Nw wr w2 → w.heap.size ≤ y := by
        intro w2 o y h1 h2
        have := h2.size; have := hnw.size; simp at h1; omega
      have hyb : ∀ {w2 : World} {o : Obj} {y : Nat}, (w2.alloc o).heap.size ≤ y → Nw wr w2 → (Value.slice A k ca).ownBlock = some y → False := by
        intro w2 o y h1 h2 e
        have := h2.size; have h3 := (World.ownsRow.lt hown y e).2; simp at h1; omega
      go_wp2_with (first
        | (at_builtin; refine wpList_appN_own (cs := L) T24 _ _ rfl rfl rfl rfl O5.out HLL.out HB.out (by unfold maxLen; omega) hb4 ?_; intro A5 c5 w5 o5 m5 _)
        | (refine wpList_buildSlice1 T24 _ rfl rfl (v := .agg L.toArray) rfl (by simpa [Value.cells] using HLL.out) (by decide) ?_)
        | (refine wpList_load_agg 35 _ rfl rfl rfl L HC4.out _ Tryd.underlying35 rfl (by rw [HLL.out]; kernel_rfl) ?_)
        | (refine wpList_copy_str 22 9 5 Tryd.underlying22 (by kernel_rfl) _ _ rfl rfl (headL g nn k N m ++ ps) rfl rfl a1 (by rw [Nat.zero_add]; exact Nat.min_le_right _ _) ?_; intro w4 o4 m4; rw [HSL.out] at o4; have HC4 := Lib.hid (HC.out w4 y o4); have c3 := gb_trans (gb_trans (gb_trans n1 n2) (World.grownBy_alloc w2 _ none)) a2; have N4 := Lib.hid (nw_of_gb (gb_trans hnw c3) m4 (by intro r hr; injection hr with hr; subst hr; exact hya a3 (gb_trans n1 n2))); have O5 := Lib.hid ((hown.nw c3).kept m4 (by intro r hr e; injection hr with hr; subst hr; exact hyb a3 (gb_trans n1 n2) e)); have hb4 := N4.out.size; clear o4 m4 c3 a1 a2 a3)
        | (refine wpList_alloc (size := 64) 35 rfl rfl w.heap.size i0 H0.out HZ.out (by simp [z64, Value.cells]) (by have h1 := hnw.size; have h2 := n1.size; have h3 := n2.size; simp; omega) ?_; intro y w3 a1 a2 a3)
        | refine wpList_str_add 9 9 _ _ rfl rfl _ _ rfl rfl (by simp; omega) HED.out ?_
        | refine wpList_str_add 9 9 _ _ rfl rfl (headL g nn k N m) ps rfl rfl (by rw [HML.out]; omega) rfl ?_
        | refine wpList_bytes_str 22 9 5 Tryd.underlying22 Tryd.underlying5 Tryd.underlying9 _ rfl rfl rfl (HLIT.out _) ?_
        | ((with_reducible refine (HP2.out _).mono ?_); rintro e w2 ⟨rfl, n2⟩)
        | ((with_reducible refine (HP1.out _).mono ?_); rintro e w1 ⟨rfl, n1⟩)
        | refine wpList_slice_str 9 Tryd.underlying9 _ _ _ rfl rfl bs (k * 53) kh _ _ rfl rfl rfl HE1.out rfl hk1 hk2 HEP.out ?_
        | refine wpList_min_int _ _ _ rfl rfl (n : Int) (((k : Int) + 1) * 53) rfl rfl HEH.out ?_)
      go_roundw
      case rel => exact ⟨k + 1, A5, c5, by omega, by go_num, rfl, nw_of_gb N4.out m5 O5.out.blk, by rw [← HRW.out]; exact o5⟩
      case measure => simp only [intOf]; omega
    · have hkN : k = N := by omega
      subst hkN
      rw [← H.out] at hown
      go_wp2
      go_ret
      exact ⟨_, _, _, rfl, hown, hnw⟩
end Go.Proofs.YtlfkeohlnhlcoaaDoor

