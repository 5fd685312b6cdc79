/- What the reference's TagOf returns, for every sector: the same. -/
import Derived.Test.YtlfkeohlnhlcoaaDoorY
import Derived.Laws.Strings2
namespace Go.Proofs.YtlfkeohlnhlcoaaDoor
open Go.RowKit Go.BW

theorem take_all_of {bs : List UInt8} (h : bs.length = 64) (c : Nat) (hc : 11 + c ≤ 64) : (bs.drop (11 + c)).take (64 - (11 + c)) = bs.drop (11 + c) := List.take_of_length_le (by simp; omega)
theorem snoc_at {bs : List UInt8} {k c : Nat} (h : k < bs.length) (hk : 11 + c ≤ k) (hno : someN ((bs.drop (11 + c)).take (k - (11 + c))) = false) : someN ((bs.drop (11 + c)).take (k + 1 - (11 + c))) = (bs.getD k 0 != 0) := by
  have e : bs.getD k 0 = bs[k] := by simp [List.getD_eq_getElem?_getD, h]
  have h2 := someN_snoc (bs.drop (11 + c)) (k - (11 + c)) (by simp; omega) hno
  rw [show k + 1 - (11 + c) = k - (11 + c) + 1 by omega, h2, e, List.getElem_drop]
  congr 2
  omega
theorem some_of {bs : List UInt8} {k c : Nat} (_ : 11 + c ≤ k) (_ : k ≤ 64) (h : someN ((bs.drop (11 + c)).take (k + 1 - (11 + c))) = true) : someN (bs.drop (11 + c)) = true := someN_take _ _ h
theorem none_of {bs : List UInt8} {k c : Nat} (hl : bs.length = 64) (hk : 64 ≤ k) (h : someN ((bs.drop (11 + c)).take (k - (11 + c))) = false) : someN (bs.drop (11 + c)) = false := by
  rwa [List.take_of_length_le (by simp; omega)] at h
theorem num_ne {x : UInt8} (h : ¬ x = 0) : ((x.toNat : Int) != 0) = true := by
  have : (x.toNat : Int) ≠ 0 := by intro e; apply h; apply UInt8.toNat_inj.1; simpa using e
  simpa using this
set_option maxHeartbeats 4000000 in
theorem rtagof_any (bs : List UInt8) (hl : bs.length = 64) (w : World) : Calls Tryd.prog 17 #[.agg (bs.map bv).toArray] w (Ret (tagV bs) w) := by
  have g8 : 8 < bs.length := by omega
  have g9 : 9 < bs.length := by omega
  have g10 : 10 < bs.length := by omega
  obtain ⟨e8, l8⟩ := byte_at g8
  obtain ⟨e9, l9⟩ := byte_at g9
  obtain ⟨e10, l10⟩ := byte_at g10
  have hno := @tagB_no bs
  have hyes : okN (b8 bs) (b9 bs) (b10 bs) = true → tagB bs = !someN (bs.drop (11 + b10 bs)) := by intro h; unfold tagB; rw [h]; rfl
  have hv := @tagV_no bs
  have hv' := @tagV_yes bs
  have hok : okN (b8 bs) (b9 bs) (b10 bs) = true ∨ b9 bs < 1 ∨ (1 ≤ b9 bs ∧ 40 < b9 bs) ∨ (1 ≤ b9 bs ∧ b9 bs ≤ 40 ∧ b9 bs ≤ b8 bs) ∨ (1 ≤ b9 bs ∧ b9 bs ≤ 40 ∧ b8 bs < b9 bs ∧ 53 < b10 bs)
      ∨ (1 ≤ b9 bs ∧ b9 bs ≤ 40 ∧ b8 bs < b9 bs ∧ b10 bs < 53 ∧ b8 bs + 1 ≠ b9 bs) ∨ (1 < b9 bs ∧ b9 bs ≤ 40 ∧ b8 bs < b9 bs ∧ b10 bs = 0 ∧ b8 bs + 1 = b9 bs) := by
    unfold okN; rw [decide_eq_true_iff]; omega
  have hok' : okN (b8 bs) (b9 bs) (b10 bs) = true → 1 ≤ b9 bs ∧ b9 bs ≤ 40 ∧ b8 bs < b9 bs ∧ b10 bs ≤ 53 ∧ (b8 bs + 1 = b9 bs ∨ b10 bs = 53) ∧ ¬ (b8 bs + 1 = b9 bs ∧ 1 < b9 bs ∧ b10 bs = 0) := by unfold okN; rw [decide_eq_true_iff]; exact id
  have hf : (1 ≤ b9 bs ∧ b9 bs ≤ 40 ∧ b8 bs < b9 bs ∧ b10 bs ≤ 53 ∧ (b8 bs + 1 = b9 bs ∨ b10 bs = 53) ∧ ¬ (b8 bs + 1 = b9 bs ∧ 1 < b9 bs ∧ b10 bs = 0) → False) → okN (b8 bs) (b9 bs) (b10 bs) = false := by unfold okN; rw [decide_eq_false_iff_not]; exact id
  change bv bs[8] = .int .u8 (b8 bs) at e8
  change bv bs[9] = .int .u8 (b9 bs) at e9
  change bv bs[10] = .int .u8 (b10 bs) at e10
  change b8 bs < 256 at l8
  change b9 bs < 256 at l9
  change b10 bs < 256 at l10
  generalize b8 bs = a at *
  generalize b9 bs = b at *
  generalize b10 bs = c at *
  have HR := Lib.hid (rd_lit (w0 := w) (bs.map bv) 35 64 (by simpa using hl))
  have HG := Lib.hid (fun (w' : World) => rget_any bs 4 w')
  have HG4 := Lib.hid (fun (w' : World) => rget_any (bs.drop 4) 4 w')
  have hse : (ByteArray.mk bs.toArray).extract 4 64 = ⟨(bs.drop 4).toArray⟩ := by rw [ByteArray.extract_mk, List.take_of_length_le (by simp; omega)]
  have hss : (ByteArray.mk bs.toArray).size = 64 := by show bs.toArray.size = 64; simpa using hl
  rcases hok with h | h | h | h | h | h | h
  case inl =>
    obtain ⟨k1, k2, k3, k4, k5, k6⟩ := hok' h
    have h1 : decide ((b : Int) < 1) = false := by simp; omega
    have h2 : decide (40 < (b : Int)) = false := by simp; omega
    have h3 : decide (b ≤ a) = false := by simp; omega
    have h4 : decide (53 < (c : Int)) = false := by simp; omega
    have hx := hyes h
    have HY := Lib.hid (fun (hb : someN (bs.drop (11 + c)) = false) => hv' (by rw [hx, hb]; rfl))
    have HN := Lib.hid (fun (hb : someN (bs.drop (11 + c)) = true) => hv (by rw [hx, hb]; rfl))
    have HC := Lib.hid (show 11 + c ≤ 64 by omega)
    clear hno hf hyes hok' hx hv hv'
    rcases (show (a + 1 = b ∧ b = 1) ∨ (a + 1 = b ∧ 1 < b ∧ c ≠ 0) ∨ (a + 1 ≠ b ∧ c = 53) by omega) with ⟨k8, k7⟩ | ⟨k8, k7, k9⟩ | ⟨k8, k7⟩
    · have h5 : ((a : Int) == (b : Int) - 1) = true := by simp; omega
      have h6 : decide (1 < (b : Int)) = false := by simp; omega
      clear k7 k8 k1 k2 k3 k4 k5 k6
      (go_enter Tryd.func17, Tryd.ntmps17; go_wp2_with (first | ((with_reducible refine (HG4.out _).mono ?_); rintro e w' ⟨rfl, rfl⟩) | ((with_reducible refine (HG.out _).mono ?_); rintro e w' ⟨rfl, rfl⟩) | refine wpList_bytes_str 22 9 5 Tryd.underlying22 Tryd.underlying5 Tryd.underlying9 _ rfl rfl rfl (HR.out.below (by (repeat (first | exact Below.refl _ _ | refine Below.setCell ?_ (by simp) _ | refine Below.alloc ?_ (by simp) _ | refine Below.drew ?_)))) ?_))
      go_loop [11] (fun i => ∃ k : Nat, 11 + c ≤ k ∧ k ≤ 64 ∧ i = .int .i64 k ∧ Hid (someN ((bs.drop (11 + c)).take (k - (11 + c))) = false)) (fun i => 64 - (intOf i).toNat)
      case atStart => exact ⟨11 + c, Nat.le_refl _, HC.out, by rw [Int.natCast_add]; rfl, Lib.hid (by rw [Nat.sub_self]; rfl)⟩
      case round =>
        obtain ⟨k, hk1, hk2, rfl, hno⟩ := hrel
        by_cases hlt : k < 64
        · have hz : k < bs.length := by omega
          obtain ⟨e, le⟩ := byte_at hz
          have hs := snoc_at hz hk1 hno.out
          generalize (bs.getD k 0) = x at e le hs
          rcases Classical.em (x = 0) with h0 | h0
          · subst h0
            have HS := Lib.hid hs; clear hs
            go_wp2
            go_round
            case rel => exact ⟨k + 1, by omega, by omega, by go_num, HS.out⟩
            case measure => simp [intOf]; omega
          · have HS := Lib.hid (HN.out (some_of hk1 hk2 (hs.trans (by simpa using h0))))
            have hy := num_ne h0
            generalize ((x.toNat : Nat) : Int) = y at e le hy
            clear hs
            go_wp2
            refine bodyPost_ret (res_cell_tmp rfl _ _ _ 36 _ _ rfl (obj_mid _ _ _ _ _) Tryd.underlying36 rfl (by kernel_rfl)) rfl ?_
            exact ⟨by rw [HS.out]; rfl, by (repeat (first | exact Nw.refl _ | refine gb_trans ?_ (World.grownBy_alloc _ _ none)))⟩
        · have HS := Lib.hid (HY.out (none_of hl (by omega) hno.out))
          have hk : k = 64 := by omega
          subst hk
          go_wp2
          refine bodyPost_ret (res_cell_tmp rfl _ _ _ 36 _ _ rfl (obj_mid _ _ _ _ _) Tryd.underlying36 rfl (by kernel_rfl)) rfl ?_
          exact ⟨by rw [HS.out]; rfl, by (repeat (first | exact Nw.refl _ | refine gb_trans ?_ (World.grownBy_alloc _ _ none)))⟩
    · have h5 : ((a : Int) == (b : Int) - 1) = true := by simp; omega
      have h6 : decide (1 < (b : Int)) = true := by simp; omega
      have h7 : ((c : Int) == 0) = false := by simp; omega
      clear k7 k8 k9 k1 k2 k3 k4 k5 k6
      (go_enter Tryd.func17, Tryd.ntmps17; go_wp2_with (first | ((with_reducible refine (HG4.out _).mono ?_); rintro e w' ⟨rfl, rfl⟩) | ((with_reducible refine (HG.out _).mono ?_); rintro e w' ⟨rfl, rfl⟩) | refine wpList_bytes_str 22 9 5 Tryd.underlying22 Tryd.underlying5 Tryd.underlying9 _ rfl rfl rfl (HR.out.below (by (repeat (first | exact Below.refl _ _ | refine Below.setCell ?_ (by simp) _ | refine Below.alloc ?_ (by simp) _ | refine Below.drew ?_)))) ?_))
      go_loop [11] (fun i => ∃ k : Nat, 11 + c ≤ k ∧ k ≤ 64 ∧ i = .int .i64 k ∧ Hid (someN ((bs.drop (11 + c)).take (k - (11 + c))) = false)) (fun i => 64 - (intOf i).toNat)
      case atStart => exact ⟨11 + c, Nat.le_refl _, HC.out, by rw [Int.natCast_add]; rfl, Lib.hid (by rw [Nat.sub_self]; rfl)⟩
      case round =>
        obtain ⟨k, hk1, hk2, rfl, hno⟩ := hrel
        by_cases hlt : k < 64
        · have hz : k < bs.length := by omega
          obtain ⟨e, le⟩ := byte_at hz
          have hs := snoc_at hz hk1 hno.out
          generalize (bs.getD k 0) = x at e le hs
          rcases Classical.em (x = 0) with h0 | h0
          · subst h0
            have HS := Lib.hid hs; clear hs
            go_wp2
            go_round
            case rel => exact ⟨k + 1, by omega, by omega, by go_num, HS.out⟩
            case measure => simp [intOf]; omega
          · have HS := Lib.hid (HN.out (some_of hk1 hk2 (hs.trans (by simpa using h0))))
            have hy := num_ne h0
            generalize ((x.toNat : Nat) : Int) = y at e le hy
            clear hs
            go_wp2
            refine bodyPost_ret (res_cell_tmp rfl _ _ _ 36 _ _ rfl (obj_mid _ _ _ _ _) Tryd.underlying36 rfl (by kernel_rfl)) rfl ?_
            exact ⟨by rw [HS.out]; rfl, by (repeat (first | exact Nw.refl _ | refine gb_trans ?_ (World.grownBy_alloc _ _ none)))⟩
        · have HS := Lib.hid (HY.out (none_of hl (by omega) hno.out))
          have hk : k = 64 := by omega
          subst hk
          go_wp2
          refine bodyPost_ret (res_cell_tmp rfl _ _ _ 36 _ _ rfl (obj_mid _ _ _ _ _) Tryd.underlying36 rfl (by kernel_rfl)) rfl ?_
          exact ⟨by rw [HS.out]; rfl, by (repeat (first | exact Nw.refl _ | refine gb_trans ?_ (World.grownBy_alloc _ _ none)))⟩
    · have h5 : ((a : Int) == (b : Int) - 1) = false := by simp; omega
      have h6 : ((c : Int) != 53) = false := by simp; omega
      clear k7 k8 k1 k2 k3 k4 k5 k6
      (go_enter Tryd.func17, Tryd.ntmps17; go_wp2_with (first | ((with_reducible refine (HG4.out _).mono ?_); rintro e w' ⟨rfl, rfl⟩) | ((with_reducible refine (HG.out _).mono ?_); rintro e w' ⟨rfl, rfl⟩) | refine wpList_bytes_str 22 9 5 Tryd.underlying22 Tryd.underlying5 Tryd.underlying9 _ rfl rfl rfl (HR.out.below (by (repeat (first | exact Below.refl _ _ | refine Below.setCell ?_ (by simp) _ | refine Below.alloc ?_ (by simp) _ | refine Below.drew ?_)))) ?_))
      go_loop [11] (fun i => ∃ k : Nat, 11 + c ≤ k ∧ k ≤ 64 ∧ i = .int .i64 k ∧ Hid (someN ((bs.drop (11 + c)).take (k - (11 + c))) = false)) (fun i => 64 - (intOf i).toNat)
      case atStart => exact ⟨11 + c, Nat.le_refl _, HC.out, by rw [Int.natCast_add]; rfl, Lib.hid (by rw [Nat.sub_self]; rfl)⟩
      case round =>
        obtain ⟨k, hk1, hk2, rfl, hno⟩ := hrel
        by_cases hlt : k < 64
        · have hz : k < bs.length := by omega
          obtain ⟨e, le⟩ := byte_at hz
          have hs := snoc_at hz hk1 hno.out
          generalize (bs.getD k 0) = x at e le hs
          rcases Classical.em (x = 0) with h0 | h0
          · subst h0
            have HS := Lib.hid hs; clear hs
            go_wp2
            go_round
            case rel => exact ⟨k + 1, by omega, by omega, by go_num, HS.out⟩
            case measure => simp [intOf]; omega
          · have HS := Lib.hid (HN.out (some_of hk1 hk2 (hs.trans (by simpa using h0))))
            have hy := num_ne h0
            generalize ((x.toNat : Nat) : Int) = y at e le hy
            clear hs
            go_wp2
            refine bodyPost_ret (res_cell_tmp rfl _ _ _ 36 _ _ rfl (obj_mid _ _ _ _ _) Tryd.underlying36 rfl (by kernel_rfl)) rfl ?_
            exact ⟨by rw [HS.out]; rfl, by (repeat (first | exact Nw.refl _ | refine gb_trans ?_ (World.grownBy_alloc _ _ none)))⟩
        · have HS := Lib.hid (HY.out (none_of hl (by omega) hno.out))
          have hk : k = 64 := by omega
          subst hk
          go_wp2
          refine bodyPost_ret (res_cell_tmp rfl _ _ _ 36 _ _ rfl (obj_mid _ _ _ _ _) Tryd.underlying36 rfl (by kernel_rfl)) rfl ?_
          exact ⟨by rw [HS.out]; rfl, by (repeat (first | exact Nw.refl _ | refine gb_trans ?_ (World.grownBy_alloc _ _ none)))⟩
  all_goals
    have H := Lib.hid (hv (hno (hf (by omega))))
    clear hv hno hf hv' hyes hok'
  case inr.inl =>
    have h1 : decide ((b : Int) < 1) = true := by simp; omega
    (go_enter Tryd.func17, Tryd.ntmps17; go_wp2_with (first | ((with_reducible refine (HG4.out _).mono ?_); rintro e w' ⟨rfl, rfl⟩) | ((with_reducible refine (HG.out _).mono ?_); rintro e w' ⟨rfl, rfl⟩) | refine wpList_bytes_str 22 9 5 Tryd.underlying22 Tryd.underlying5 Tryd.underlying9 _ rfl rfl rfl (HR.out.below (by (repeat (first | exact Below.refl _ _ | refine Below.setCell ?_ (by simp) _ | refine Below.alloc ?_ (by simp) _ | refine Below.drew ?_)))) ?_))
    (refine bodyPost_ret (res_cell_tmp rfl _ _ _ 36 _ _ rfl (obj_mid _ _ _ _ _) Tryd.underlying36 rfl (by kernel_rfl)) rfl ?_; exact ⟨by rw [H.out]; rfl, by (repeat (first | exact Nw.refl _ | refine gb_trans ?_ (World.grownBy_alloc _ _ none)))⟩)
  case inr.inr.inl =>
    have h1 : decide ((b : Int) < 1) = false := by simp; omega
    have h2 : decide (40 < (b : Int)) = true := by simp; omega
    (go_enter Tryd.func17, Tryd.ntmps17; go_wp2_with (first | ((with_reducible refine (HG4.out _).mono ?_); rintro e w' ⟨rfl, rfl⟩) | ((with_reducible refine (HG.out _).mono ?_); rintro e w' ⟨rfl, rfl⟩) | refine wpList_bytes_str 22 9 5 Tryd.underlying22 Tryd.underlying5 Tryd.underlying9 _ rfl rfl rfl (HR.out.below (by (repeat (first | exact Below.refl _ _ | refine Below.setCell ?_ (by simp) _ | refine Below.alloc ?_ (by simp) _ | refine Below.drew ?_)))) ?_))
    (refine bodyPost_ret (res_cell_tmp rfl _ _ _ 36 _ _ rfl (obj_mid _ _ _ _ _) Tryd.underlying36 rfl (by kernel_rfl)) rfl ?_; exact ⟨by rw [H.out]; rfl, by (repeat (first | exact Nw.refl _ | refine gb_trans ?_ (World.grownBy_alloc _ _ none)))⟩)
  case inr.inr.inr.inl =>
    have h1 : decide ((b : Int) < 1) = false := by simp; omega
    have h2 : decide (40 < (b : Int)) = false := by simp; omega
    have h3 : decide (b ≤ a) = true := by simp; omega
    (go_enter Tryd.func17, Tryd.ntmps17; go_wp2_with (first | ((with_reducible refine (HG4.out _).mono ?_); rintro e w' ⟨rfl, rfl⟩) | ((with_reducible refine (HG.out _).mono ?_); rintro e w' ⟨rfl, rfl⟩) | refine wpList_bytes_str 22 9 5 Tryd.underlying22 Tryd.underlying5 Tryd.underlying9 _ rfl rfl rfl (HR.out.below (by (repeat (first | exact Below.refl _ _ | refine Below.setCell ?_ (by simp) _ | refine Below.alloc ?_ (by simp) _ | refine Below.drew ?_)))) ?_))
    (refine bodyPost_ret (res_cell_tmp rfl _ _ _ 36 _ _ rfl (obj_mid _ _ _ _ _) Tryd.underlying36 rfl (by kernel_rfl)) rfl ?_; exact ⟨by rw [H.out]; rfl, by (repeat (first | exact Nw.refl _ | refine gb_trans ?_ (World.grownBy_alloc _ _ none)))⟩)
  case inr.inr.inr.inr.inl =>
    have h1 : decide ((b : Int) < 1) = false := by simp; omega
    have h2 : decide (40 < (b : Int)) = false := by simp; omega
    have h3 : decide (b ≤ a) = false := by simp; omega
    have h4 : decide (53 < (c : Int)) = true := by simp; omega
    (go_enter Tryd.func17, Tryd.ntmps17; go_wp2_with (first | ((with_reducible refine (HG4.out _).mono ?_); rintro e w' ⟨rfl, rfl⟩) | ((with_reducible refine (HG.out _).mono ?_); rintro e w' ⟨rfl, rfl⟩) | refine wpList_bytes_str 22 9 5 Tryd.underlying22 Tryd.underlying5 Tryd.underlying9 _ rfl rfl rfl (HR.out.below (by (repeat (first | exact Below.refl _ _ | refine Below.setCell ?_ (by simp) _ | refine Below.alloc ?_ (by simp) _ | refine Below.drew ?_)))) ?_))
    (refine bodyPost_ret (res_cell_tmp rfl _ _ _ 36 _ _ rfl (obj_mid _ _ _ _ _) Tryd.underlying36 rfl (by kernel_rfl)) rfl ?_; exact ⟨by rw [H.out]; rfl, by (repeat (first | exact Nw.refl _ | refine gb_trans ?_ (World.grownBy_alloc _ _ none)))⟩)
  case inr.inr.inr.inr.inr.inl =>
    have h1 : decide ((b : Int) < 1) = false := by simp; omega
    have h2 : decide (40 < (b : Int)) = false := by simp; omega
    have h3 : decide (b ≤ a) = false := by simp; omega
    have h4 : decide (53 < (c : Int)) = false := by simp; omega
    have h5 : ((a : Int) == (b : Int) - 1) = false := by simp; omega
    have h6 : decide ((c : Int) < 53) = true := by simp; omega
    (go_enter Tryd.func17, Tryd.ntmps17; go_wp2_with (first | ((with_reducible refine (HG4.out _).mono ?_); rintro e w' ⟨rfl, rfl⟩) | ((with_reducible refine (HG.out _).mono ?_); rintro e w' ⟨rfl, rfl⟩) | refine wpList_bytes_str 22 9 5 Tryd.underlying22 Tryd.underlying5 Tryd.underlying9 _ rfl rfl rfl (HR.out.below (by (repeat (first | exact Below.refl _ _ | refine Below.setCell ?_ (by simp) _ | refine Below.alloc ?_ (by simp) _ | refine Below.drew ?_)))) ?_))
    (refine bodyPost_ret (res_cell_tmp rfl _ _ _ 36 _ _ rfl (obj_mid _ _ _ _ _) Tryd.underlying36 rfl (by kernel_rfl)) rfl ?_; exact ⟨by rw [H.out]; rfl, by (repeat (first | exact Nw.refl _ | refine gb_trans ?_ (World.grownBy_alloc _ _ none)))⟩)
  case inr.inr.inr.inr.inr.inr =>
    have h1 : decide ((b : Int) < 1) = false := by simp; omega
    have h2 : decide (40 < (b : Int)) = false := by simp; omega
    have h3 : decide (b ≤ a) = false := by simp; omega
    have h4 : decide (53 < (c : Int)) = false := by simp; omega
    have h5 : ((a : Int) == (b : Int) - 1) = true := by simp; omega
    have h6 : decide (1 < (b : Int)) = true := by simp; omega
    have h7 : ((c : Int) == 0) = true := by simp; omega
    (go_enter Tryd.func17, Tryd.ntmps17; go_wp2_with (first | ((with_reducible refine (HG4.out _).mono ?_); rintro e w' ⟨rfl, rfl⟩) | ((with_reducible refine (HG.out _).mono ?_); rintro e w' ⟨rfl, rfl⟩) | refine wpList_bytes_str 22 9 5 Tryd.underlying22 Tryd.underlying5 Tryd.underlying9 _ rfl rfl rfl (HR.out.below (by (repeat (first | exact Below.refl _ _ | refine Below.setCell ?_ (by simp) _ | refine Below.alloc ?_ (by simp) _ | refine Below.drew ?_)))) ?_))
    (refine bodyPost_ret (res_cell_tmp rfl _ _ _ 36 _ _ rfl (obj_mid _ _ _ _ _) Tryd.underlying36 rfl (by kernel_rfl)) rfl ?_; exact ⟨by rw [H.out]; rfl, by (repeat (first | exact Nw.refl _ | refine gb_trans ?_ (World.grownBy_alloc _ _ none)))⟩)
end Go.Proofs.YtlfkeohlnhlcoaaDoor

