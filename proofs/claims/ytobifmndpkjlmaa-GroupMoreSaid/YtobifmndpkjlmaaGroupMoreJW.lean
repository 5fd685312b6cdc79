/- The law GroupMore, walked: more room does no harm, and fewer groups neither. Printed by gen_more.py. -/
import Derived.Test.YtobifmndpkjlmaaJO
import Derived.Test.YtobifmndpkjlmaaJJ
set_option linter.unusedVariables false
set_option linter.unusedSimpArgs false
namespace Go.Proofs.Ytobifmndpkjlmaa
open Go.RowKit Go.BW

set_option maxRecDepth 100000 in
set_option maxHeartbeats 32000000 in
theorem gmore_all {w : World} (A0 : Option Addr) (n0 c0 : Nat) (gs0 : List Gp) (h0 : InL w gc 3 (GIn w) A0 n0 c0 gs0) (A1 : Option Addr) (n1 c1 : Nat) (zs : List Int) (h1 : InI w A1 n1 c1 zs) (lost : Int) (_hl : -9223372036854775808 ≤ lost ∧ lost ≤ 9223372036854775807)
    (at' : Int) (_ha : -9223372036854775808 ≤ at' ∧ at' ≤ 9223372036854775807) :
    Calls Try.prog 6 #[.slice A0 n0 c0, .slice A1 n1 c1, .int .i64 lost, .int .i64 at'] w (Ret (.bool true) w) := by
  obtain ⟨hgi, hn0⟩ := InL.gsi h0
  obtain ⟨hrz, _, hcm1, hlz, _⟩ := h1
  have hn1 : n1 ≤ 9223372036854775807 := by unfold maxLen at hcm1; omega
  have SH := Lib.hid (fun w' => shown_any w')
  have FW := Lib.hid (show ∀ w', Nw w w' → Calls Try.prog 14 #[.slice A0 n0 c0] w' (FewPost gs0 w') from fun w' hw => few_any (hgi.nw hw (Nat.le_refl _)) hw.size hn0)
  have SM := Lib.hid (show ∀ w', Nw w w' → Calls Try.prog 15 #[.slice A1 n1 c1] w' (RetOwn 3 1 ((smallP zs).map iv) w') from fun w' hw => small_any (hrz.nw hw (Nat.le_refl _)) hw.size hn1)
  unfold Ret at SH
  unfold RetOwn at SM
  unfold FewPost at FW
  clear hgi hn0 hrz hcm1 hlz hn1 h0
  go_enter Try.func6, Try.ntmps6
  go_upto_region 4 with (first
    | ((with_reducible refine (SM.out _ N2.out).mono ?_); rintro e w3 ⟨A3, n3, c3, rfl, o3, n23⟩; have N3 := Lib.hid (gb_trans N2.out n23))
    | ((with_reducible refine (FW.out _ n1').mono ?_); rintro e w2 ⟨A2, n2, c2, gs2, rfl, o2, g2, k2, n12⟩; have N2 := Lib.hid (gb_trans n1' n12))
    | ((with_reducible refine (SH.out _).mono ?_); rintro e w1 ⟨rfl, n1'⟩))
  have hrl : (smallP zs).length = n3 := by have := o3.len; simpa using this
  have hn8 : n3 ≤ 8 := by rw [← hrl]; exact smallP_len zs
  obtain ⟨ga, ha16, hac⟩ := few_gsr o2 g2 k2
  have GA := Lib.hid ((ga.nw n23 (Nat.le_refl _)).more n23.size)
  have GL := Lib.hid GA.out.len
  have O3 := Lib.hid o3
  have RS := Lib.hid (show Rd w3 w3.heap.size 1 A3 n3 ((smallP zs).map iv) from o3.rd)
  have hM : ∀ r ∈ smallP zs, r ≤ 1000 := smallP_le zs
  have HM := Lib.hid hM
  have HRL := Lib.hid hrl
  obtain ⟨rs, hrs⟩ : ∃ rs, smallP zs = rs := ⟨_, rfl⟩
  rw [hrs] at O3 RS HM HRL
  clear ga hM o2 g2 k2 o3 n12 n23 n1' SH FW SM hrl hrs N2
  rcases Nat.eq_zero_or_pos n3 with hz | hz
  · subst hz
    go_wp2
    go_ret
    exact ⟨rfl, N3.out⟩
  have hz0 : ((n3 : Int) == 0) = false := by rw [beq_eq_false_iff_ne]; omega
  have hz1 : ¬ (n3 : Int) = 0 := by omega
  obtain ⟨kk, hkk⟩ : ∃ kk : Nat, (at' % 65536).tmod (n3 : Int) = (kk : Int) ∧ kk < n3 := by
    have h1 : 0 ≤ at' % 65536 := Int.emod_nonneg _ (by decide)
    refine ⟨((at' % 65536) % (n3 : Int)).toNat, ?_, ?_⟩
    · rw [Int.tmod_eq_emod_of_nonneg h1, Int.toNat_of_nonneg (Int.emod_nonneg _ (by omega))]
    · have h2 := Int.emod_lt_of_pos (at' % 65536) (show (0 : Int) < (n3 : Int) by omega)
      have h3 := Int.emod_nonneg (at' % 65536) (show (n3 : Int) ≠ 0 by omega)
      omega
  obtain ⟨hk1, hk2⟩ := hkk
  have hk2z : (kk : Int) < (n3 : Int) := by omega
  have ea : bits .and .i64 at' 65535 = at' % 65536 := and_mask at' 16 (by decide)
  have HS1 := Lib.hid (safe_any (c := c3) (c2 := c2) GA.out RS.out (Nat.le_refl _) (by omega) (by omega) (fun r hr => Int.le_trans (HM.out r hr) (by decide)) lost)
  have h1v := iv_one rs
  have hsn : n3 * 8 ≤ 140737488355328 ∧ n3 ≤ maxLen := by unfold maxLen; omega
  obtain ⟨x, hx⟩ : ∃ x, rs.getD kk 0 = x := ⟨_, rfl⟩
  have hxle : x ≤ 1000 := by
    rw [← hx, ← getD_at (by rw [HRL.out]; exact hk2)]
    exact HM.out _ (List.getElem_mem _)
  have HXV := Lib.hid hx
  have HMX := Lib.hid (show (if (0 : Int) < x then x else (0 : Int)) = max 0 x by split <;> omega)
  obtain ⟨mx, hmx⟩ : ∃ mx, max 0 x = mx := ⟨_, rfl⟩
  have hmx0 : 0 ≤ mx ∧ mx ≤ 1000 := by omega
  have HMXV := Lib.hid hmx
  rw [hmx] at HMX
  have HC7 := Lib.hid (show ∀ w7 A7 c7, Own w7 w3.heap.size 3 1 A7 n3 c7 (rs.map iv) → ∃ g7, A7 = some ⟨g7, 0, none⟩ ∧ w7.cell? ⟨g7, kk, none⟩ = some (.int .i64 x) ∧ w7.frozen? ⟨g7, kk, none⟩ = false from by
    intro w7 A7 c7 o7
    obtain ⟨g7, hA7, _⟩ := o7.some_ (by omega)
    subst hA7
    obtain ⟨u, u1, u2, u3⟩ := o7.cellAt (k := kk) hk2
    rw [List.getElem?_map, List.getElem?_eq_getElem (by rw [HRL.out]; exact hk2), Option.map_some, getD_at, HXV.out] at u1
    injection u1 with u1; subst u1
    exact ⟨g7, rfl, u2, u3⟩)
  unfold SafePost at HS1
  clear hx hmx
  go_upto_region 8 with (first
    | (at_builtin; refine wpList_app_lit T22 _ _ rfl rfl w4.heap.size rfl rfl (RS.out.nw m4 (Nat.le_refl _)) m4.size h1v hsn (Nat.le_refl _) ?_; intro A7 c7 w7 h2 m7; have o7 := Lib.hid (h2.more m4.size); clear h2; obtain ⟨gm, hA7, u2, u3⟩ := HC7.out w7 A7 c7 o7.out; subst hA7)
    | ((with_reducible refine HS1.out.mono ?_); rintro e w4 ⟨b1, rfl, hb1, hb2, m4⟩; clear hb2))
  go_upto_region 10 with ((with_reducible refine wpList_max_int _ _ _ (by with_unfolding_all exact rfl) (by with_unfolding_all exact rfl) (0 : Int) x (by with_unfolding_all exact rfl) (by with_unfolding_all exact rfl) HMX.out ?_))
  obtain ⟨o8, k8⟩ := o7.out.set kk (.int .i64 (mx + 1))
  obtain ⟨ms, hms⟩ : ∃ ms, rs.set kk (mx + 1) = ms := ⟨_, rfl⟩
  have e9 : (rs.map iv).set kk (.int .i64 (mx + 1)) = ms.map iv := by rw [← hms, List.map_set]; rfl
  rw [e9] at o8
  have m8 : Nw w3 (w7.setCell ⟨gm, kk, none⟩ (.int .i64 (mx + 1))) := nw_of_gb (gb_trans m4 m7) k8 (fun z hz => by injection hz with hz; subst hz; exact o7.out.blk _ rfl)
  obtain ⟨wx, hwx⟩ : ∃ wx, w7.setCell ⟨gm, kk, none⟩ (.int .i64 (mx + 1)) = wx := ⟨_, rfl⟩
  rw [hwx] at o8 m8 ⊢
  have MX := Lib.hid o8
  have NX := Lib.hid (gb_trans N3.out m8)
  have M3X := Lib.hid m8
  have HML := Lib.hid (show ms.length = n3 by rw [← hms, List.length_set, HRL.out])
  have HMM := Lib.hid (show ∀ r ∈ ms, r ≤ 1000000 from fun r hr => by
    rw [← hms] at hr
    rcases List.mem_or_eq_of_mem_set hr with h | h
    · exact Int.le_trans (HM.out r h) (by decide)
    · omega)
  have HMT := Lib.hid (show Mt (lks (needs gs2 lost)) rs → Mt (lks (needs gs2 lost)) ms from fun h => by
    rw [← hms, ← HMXV.out, ← HXV.out]; exact more_mono h)
  have HB1 := Lib.hid hb1
  clear o8 k8 m8 hwx hms e9 u2 u3 m4 m7 o7 HS1 hb1 h1v
  rcases b1 with _ | _
  · -- not safe
    rcases Nat.eq_zero_or_pos n2 with hg | hg
    · have hg0 : ¬ (0 : Int) < (n2 : Int) := by omega
      have hd0 : decide (0 < n2) = false := decide_eq_false (by omega)
      clear HB1 HMT hg
      go_wp2_with fail
      clear hg0 hd0
      have NT := Lib.hid (NX.out)
      have BT := Lib.hid (show w3.heap.size ≤ wx.heap.size from (M3X.out).size)
      have GT := Lib.hid (GA.out.nw (M3X.out) (Nat.le_refl _))
      have MT := Lib.hid (MX.out.nw (Nw.refl _))
      go_loopw [17, 18] (fun f v wr => ∃ (i : Nat) (q : Bool), v = .int .i64 i ∧ f = .bool q ∧ i ≤ n2 ∧ Hid ((gs2.take i).any (fullP n3 lost) = q) ∧ Nw wx wr) (fun _ v _ => n2 - (intOf v).toNat)
      case atStart => exact ⟨0, false, rfl, rfl, Nat.zero_le _, Lib.hid rfl, Nw.refl _⟩
      case round =>
        obtain ⟨i, q, rfl, rfl, hi, hq, hnw⟩ := hrel
        obtain ⟨wa, rfl⟩ : ∃ q, q = wr := ⟨_, rfl⟩
        by_cases hlt : i < n2
        · have hltz : (i : Int) < (n2 : Int) := by omega
          have HGi := Lib.hid (GT.out.nw hnw BT.out)
          have HBi := Lib.hid (Nat.le_trans BT.out hnw.size)
          obtain ⟨_, b, off, y, hA, _, hy, hc⟩ := HGi.out.rd.atL gc_len (by decide) hlt
          subst hA
          have HY := Lib.hid hy
          have HC := Lib.hid hc
          have HCF := Lib.hid (show ∀ w', Nw wa w' → ∀ k u, (gc y)[k]? = some u → w'.cell? ⟨b, off + i * 3 + k, none⟩ = some u from fun w' hw k u hu => cell_nw (HC.out k u hu) hw)
          have HOK := Lib.hid (HGi.out.all y (List.mem_of_getElem? hy))
          have HH := Lib.hid (show ∀ (d : Int) w', Nw wa w' → Calls Try.prog 18 #[.agg (gc y).toArray, .int .i64 d] w' (Ret (.bool (hasD y d)) w') from fun d w' hw => rhas_any (HOK.out.nw hw HBi.out) (Nat.le_trans HBi.out hw.size) d)
          obtain ⟨a0, ha0⟩ : ∃ q, hasD y lost = q := ⟨_, rfl⟩
          have HH0 := Lib.hid (HH.out lost wa (Nw.refl _))
          rw [ha0] at HH0
          have HA0 := Lib.hid ha0
          unfold Ret at HH HH0
          clear hy hc ha0
          go_wp2_with (first
            | ((with_reducible refine HH0.out.mono ?_); rintro e w2' ⟨rfl, p2⟩)
            | ((with_reducible refine wpList_load_agg 37 _ (by with_unfolding_all exact rfl) (by with_unfolding_all exact rfl) (by with_unfolding_all exact rfl) (gc y) HC.out _ Try.underlying37 (by with_unfolding_all exact rfl) (by rw [gc_len]; kernel_rfl) ?_)))
          have P2 := Lib.hid p2
          clear p2
          go_loopw [19, 20] (fun f v wr => ∃ (d : Nat) (a : Bool), v = .int .i64 d ∧ f = .bool a ∧ d ≤ n3 ∧ Hid ((hasD y lost && (List.range d).all fun (d : Nat) => hasD y (d : Int)) = a) ∧ Nw wa wr) (fun _ v _ => n3 - (intOf v).toNat)
          case atStart => exact ⟨0, a0, rfl, rfl, Nat.zero_le _, Lib.hid (by rw [HA0.out]; simp), P2.out⟩
          case round =>
            obtain ⟨d, a, rfl, rfl, hd, had, hnw2⟩ := hrel
            by_cases hld : d < n3
            · have hldz : (d : Int) < (n3 : Int) := by omega
              have HCD := Lib.hid (HCF.out wr hnw2)
              rcases a with _ | _
              · have HN := Lib.hid (show (hasD y lost && (List.range (d + 1)).all fun (d : Nat) => hasD y (d : Int)) = false by rw [full_step, ← Bool.and_assoc, had.out]; rfl)
                go_wp2_with fail
                go_roundw
                case rel => exact ⟨d + 1, false, by go_num, rfl, by omega, HN, hnw2⟩
                case measure => simp only [intOf]; omega
              · obtain ⟨a2, ha2⟩ : ∃ q, hasD y (d : Int) = q := ⟨_, rfl⟩
                have HHd := Lib.hid (HH.out (d : Int) wr hnw2)
                rw [ha2] at HHd
                have HN := Lib.hid (show (hasD y lost && (List.range (d + 1)).all fun (d : Nat) => hasD y (d : Int)) = a2 by rw [full_step, ← Bool.and_assoc, had.out, ha2]; rfl)
                clear ha2
                go_wp2_with (first
                  | ((with_reducible refine HHd.out.mono ?_); rintro e w3' ⟨rfl, p3⟩)
                  | ((with_reducible refine wpList_load_agg 37 _ (by with_unfolding_all exact rfl) (by with_unfolding_all exact rfl) (by with_unfolding_all exact rfl) (gc y) HCD.out _ Try.underlying37 (by with_unfolding_all exact rfl) (by rw [gc_len]; kernel_rfl) ?_)))
                go_roundw
                case rel => exact ⟨d + 1, a2, by go_num, rfl, by omega, HN, gb_trans hnw2 p3⟩
                case measure => simp only [intOf]; omega
            · have HN := Lib.hid (show (gs2.take (i + 1)).any (fullP n3 lost) = (q || a) from by
                obtain ⟨hk2', rfl⟩ := List.getElem?_eq_some_iff.1 HY.out
                have hdn : d = n3 := by omega
                have := had.out
                rw [hdn] at this
                rw [List.take_succ_eq_append_getElem hk2', List.any_append, hq.out, List.any_cons, List.any_nil, Bool.or_false]
                unfold fullP
                rw [this])
              rcases q with _ | _
              · go_wp2_with fail
                go_roundw
                case rel => exact ⟨i + 1, a, by go_num, rfl, by omega, Lib.hid (by rw [HN.out]; rfl), gb_trans hnw hnw2⟩
                case measure => simp only [intOf]; omega
              · go_wp2_with fail
                go_roundw
                case rel => exact ⟨i + 1, true, by go_num, rfl, by omega, Lib.hid (by rw [HN.out]; rfl), gb_trans hnw hnw2⟩
                case measure => simp only [intOf]; omega
        · have HF := Lib.hid (show gs2.any (fullP n3 lost) = q by have := hq.out; rwa [List.take_of_length_le (by rw [GL.out]; omega)] at this)
          have MT2 := Lib.hid (MT.out.nw hnw)
          have NT2 := Lib.hid (gb_trans NT.out hnw)
          have BT2 := Lib.hid (Nat.le_trans BT.out hnw.size)
          have GT2 := Lib.hid (GT.out.nw hnw BT.out)
          clear hq hi
          go_wp2_with fail
          go_loopw [21] (fun v wr => ∃ d : Nat, v = .int .i64 d ∧ d ≤ n3 ∧ Hid (Own wr w3.heap.size 3 1 (some ⟨gm, 0, none⟩) n3 c7 ((List.replicate d ((n2 : Int) + 1) ++ ms.drop d).map iv)) ∧ Hid (wa.grownBy wr (some gm))) (fun v _ => n3 - (intOf v).toNat)
          case atStart => exact ⟨0, rfl, Nat.zero_le _, Lib.hid (by simpa using MT2.out), Lib.hid (gb_nw (Nw.refl _))⟩
          case round =>
            obtain ⟨d, rfl, hd, hod, hgd⟩ := hrel
            by_cases hld : d < n3
            · have hldz : (d : Int) < (n3 : Int) := by omega
              obtain ⟨u, _, u2, u3⟩ := hod.out.cellAt hld
              obtain ⟨p8, p9⟩ := hod.out.set d (.int .i64 ((n2 : Int) + 1))
              have P8 := Lib.hid p8; have P9 := Lib.hid p9
              have HSE := Lib.hid (show ((List.replicate d ((n2 : Int) + 1) ++ ms.drop d).map iv).set d (.int .i64 ((n2 : Int) + 1)) = (List.replicate (d + 1) ((n2 : Int) + 1) ++ ms.drop (d + 1)).map iv from by
                have hdl : d < ms.length := by rw [HML.out]; exact hld
                rw [List.drop_eq_getElem_cons hdl, List.map_append, List.set_append_right _ _ (by simp), List.map_cons]
                simp [List.replicate_succ', iv])
              clear p8 p9
              go_wp2_with fail
              go_roundw
              case rel => exact ⟨d + 1, by go_num, by omega, Lib.hid (by rw [← HSE.out]; exact P8.out), Lib.hid (gb_trans hgd.out P9.out)⟩
              case measure => simp only [intOf]; omega
            · have hdn : d = n3 := by omega
              have HOE := Lib.hid (show Own wr w3.heap.size 3 1 (some ⟨gm, 0, none⟩) n3 c7 ((List.replicate n3 (((gs2.length + 1 : Nat)) : Int)).map iv) from by
                have := hod.out
                rw [hdn, List.drop_of_length_le (by rw [HML.out]; exact Nat.le_refl _), List.append_nil] at this
                rw [GL.out]
                exact this)
              have NE := Lib.hid (show Nw w wr from nw_of_gb NT2.out hgd.out (fun z hz => by injection hz with hz; subst hz; exact Nat.le_trans N3.out.size (MT2.out.blk _ rfl)))
              have GE := Lib.hid (GT2.out.rd.gb hgd.out BT2.out (fun z hz => by injection hz with hz; subst hz; exact MT2.out.blk _ rfl))
              have GE2 := Lib.hid (show GsR wr w3.heap.size A2 n2 gs2 from ⟨GE.out, fun g hg => by
                have h := GT2.out.all g hg
                exact ⟨h.rd.gb hgd.out BT2.out (fun z hz => by injection hz with hz; subst hz; exact MT2.out.blk _ rfl), h.nc, h.cm, h.nm⟩⟩)
              have BE := Lib.hid (show w3.heap.size ≤ wr.heap.size from Nat.le_trans BT2.out hgd.out.size)
              have HS4 := Lib.hid (show Calls Try.prog 19 #[.slice A2 n2 c2, .slice (some ⟨gm, 0, none⟩) n3 c7, .int .i64 lost] wr (fun e w' => e = .returned (.bool (!q)) ∧ Nw wr w') from
                (safe_any (GE2.out.more BE.out) HOE.out.rd (Nat.le_refl _) (by omega) (by omega) (fun r hr => by rw [List.mem_replicate] at hr; rw [hr.2, GL.out]; omega) lost).mono fun e w' h => by have := safe_full h; rwa [HF.out] at this)
              have hqq : ((!q) != q) = true := by cases q <;> rfl
              clear hdn
              go_wp2_with ((with_reducible refine HS4.out.mono ?_); rintro e w9 ⟨rfl, p9⟩)
              go_ret
              exact ⟨rfl, gb_trans NE.out p9⟩
    · have hg0 : (0 : Int) < (n2 : Int) := by omega
      have hd0 : decide (0 < n2) = true := decide_eq_true (by omega)
      clear HB1 HMT
      have e16 : bits .and .i64 (at' / 2 ^ 16) 65535 = at' / 2 ^ 16 % 65536 := and_mask (at' / 2 ^ 16) 16 (by decide)
      have e17 : bits .and .i64 (at' / 65536) 65535 = at' / 65536 % 65536 := and_mask (at' / 65536) 16 (by decide)
      have hg1 : ¬ (n2 : Int) = 0 := by omega
      obtain ⟨nn, hnn⟩ : ∃ nn : Nat, (at' / 65536 % 65536).tmod (n2 : Int) = (nn : Int) ∧ nn < n2 := by
        have h1 : 0 ≤ at' / 65536 % 65536 := Int.emod_nonneg _ (by decide)
        refine ⟨((at' / 65536 % 65536) % (n2 : Int)).toNat, ?_, ?_⟩
        · rw [Int.tmod_eq_emod_of_nonneg h1, Int.toNat_of_nonneg (Int.emod_nonneg _ (by omega))]
        · have h2 := Int.emod_lt_of_pos (at' / 65536 % 65536) (show (0 : Int) < (n2 : Int) by omega)
          have h3 := Int.emod_nonneg (at' / 65536 % 65536) (show (n2 : Int) ≠ 0 by omega)
          omega
      obtain ⟨hn1', hn2'⟩ := hnn
      have E1 := Lib.hid (show (nn : Int) + 1 = ((nn + 1 : Nat) : Int) by omega)
      have E2 := Lib.hid (show nn + 1 ≤ n2 by omega)
      have HAC := Lib.hid hac
      have HC2 := Lib.hid (show nn ≤ c2 by omega)
      have o16 := gc_one (gs2.take nn)
      have o17 := gc_one (gs2.drop (nn + 1))
      have hs16 : nn * 40 ≤ 140737488355328 ∧ nn ≤ maxLen := by unfold maxLen; omega
      have hs17 : (nn + (n2 - (nn + 1))) * 40 ≤ 140737488355328 ∧ nn + (n2 - (nn + 1)) ≤ maxLen := by unfold maxLen; omega
      have HLE := Lib.hid (show ∀ w5, Nw w3 w5 → Rd w5 w3.heap.size 3 A2 nn (fl gc (gs2.take nn)) ∧ GsR w5 w3.heap.size (cutA A2 c2 (nn + 1) 3) (n2 - (nn + 1)) (gs2.drop (nn + 1)) ∧ w3.heap.size ≤ w5.heap.size from fun w5 h =>
        ⟨(GA.out.nw h (Nat.le_refl _)).rd.takeL gc_len (by omega), (GA.out.nw h (Nat.le_refl _)).dropG (by omega) hac, h.size⟩)
      go_wp2_with (first
        | (at_builtin; (with_reducible refine wpList_app_own T28 _ _ (by with_unfolding_all exact rfl) (by with_unfolding_all exact rfl) (by with_unfolding_all exact rfl) (by with_unfolding_all exact rfl) o6 (HLE.out _ (gb_trans M3X.out q6)).2.1.rd o17 hs17 HB6.out ?_); intro A8 c8 w8 r2 r3 r4)
        | ((with_reducible refine wpList_slice_lo 28 37 Try.underlying28 3 (by kernel_rfl) _ _ (by with_unfolding_all exact rfl) (by with_unfolding_all exact rfl) A2 n2 c2 (nn + 1) _ (by with_unfolding_all exact rfl) (by with_unfolding_all exact rfl) E1.out E2.out HAC.out (by with_unfolding_all exact rfl) (by with_unfolding_all exact rfl) (by with_unfolding_all exact rfl) ?_))
        | (at_builtin; (with_reducible refine wpList_app_lit T28 _ _ (by with_unfolding_all exact rfl) (by with_unfolding_all exact rfl) wx.heap.size (by with_unfolding_all exact rfl) (by with_unfolding_all exact rfl) (HLE.out _ M3X.out).1 (HLE.out _ M3X.out).2.2 o16 hs16 (Nat.le_refl _) ?_); intro A6 c6 w6 o6 q6; have HB6 := Lib.hid (q6.size))
        | ((with_reducible refine wpList_slice_hi 28 37 Try.underlying28 (size := 3) (by kernel_rfl) _ _ (by with_unfolding_all exact rfl) (by with_unfolding_all exact rfl) A2 n2 c2 nn (by with_unfolding_all exact rfl) (by with_unfolding_all exact rfl) HC2.out ?_)))
      have Q68 := Lib.hid (nw_of_gb q6 r3 (fun z hz => o6.blk z hz))
      clear o16 o17 r2 r4 o6
      clear hg0 hd0
      have NT := Lib.hid (gb_trans NX.out Q68.out)
      have BT := Lib.hid (show w3.heap.size ≤ w8.heap.size from (gb_trans M3X.out Q68.out).size)
      have GT := Lib.hid (GA.out.nw (gb_trans M3X.out Q68.out) (Nat.le_refl _))
      have MT := Lib.hid (MX.out.nw (Q68.out))
      go_loopw [17, 18] (fun f v wr => ∃ (i : Nat) (q : Bool), v = .int .i64 i ∧ f = .bool q ∧ i ≤ n2 ∧ Hid ((gs2.take i).any (fullP n3 lost) = q) ∧ Nw w8 wr) (fun _ v _ => n2 - (intOf v).toNat)
      case atStart => exact ⟨0, false, rfl, rfl, Nat.zero_le _, Lib.hid rfl, Nw.refl _⟩
      case round =>
        obtain ⟨i, q, rfl, rfl, hi, hq, hnw⟩ := hrel
        obtain ⟨wa, rfl⟩ : ∃ q, q = wr := ⟨_, rfl⟩
        by_cases hlt : i < n2
        · have hltz : (i : Int) < (n2 : Int) := by omega
          have HGi := Lib.hid (GT.out.nw hnw BT.out)
          have HBi := Lib.hid (Nat.le_trans BT.out hnw.size)
          obtain ⟨_, b, off, y, hA, _, hy, hc⟩ := HGi.out.rd.atL gc_len (by decide) hlt
          subst hA
          have HY := Lib.hid hy
          have HC := Lib.hid hc
          have HCF := Lib.hid (show ∀ w', Nw wa w' → ∀ k u, (gc y)[k]? = some u → w'.cell? ⟨b, off + i * 3 + k, none⟩ = some u from fun w' hw k u hu => cell_nw (HC.out k u hu) hw)
          have HOK := Lib.hid (HGi.out.all y (List.mem_of_getElem? hy))
          have HH := Lib.hid (show ∀ (d : Int) w', Nw wa w' → Calls Try.prog 18 #[.agg (gc y).toArray, .int .i64 d] w' (Ret (.bool (hasD y d)) w') from fun d w' hw => rhas_any (HOK.out.nw hw HBi.out) (Nat.le_trans HBi.out hw.size) d)
          obtain ⟨a0, ha0⟩ : ∃ q, hasD y lost = q := ⟨_, rfl⟩
          have HH0 := Lib.hid (HH.out lost wa (Nw.refl _))
          rw [ha0] at HH0
          have HA0 := Lib.hid ha0
          unfold Ret at HH HH0
          clear hy hc ha0
          go_wp2_with (first
            | ((with_reducible refine HH0.out.mono ?_); rintro e w2' ⟨rfl, p2⟩)
            | ((with_reducible refine wpList_load_agg 37 _ (by with_unfolding_all exact rfl) (by with_unfolding_all exact rfl) (by with_unfolding_all exact rfl) (gc y) HC.out _ Try.underlying37 (by with_unfolding_all exact rfl) (by rw [gc_len]; kernel_rfl) ?_)))
          have P2 := Lib.hid p2
          clear p2
          go_loopw [19, 20] (fun f v wr => ∃ (d : Nat) (a : Bool), v = .int .i64 d ∧ f = .bool a ∧ d ≤ n3 ∧ Hid ((hasD y lost && (List.range d).all fun (d : Nat) => hasD y (d : Int)) = a) ∧ Nw wa wr) (fun _ v _ => n3 - (intOf v).toNat)
          case atStart => exact ⟨0, a0, rfl, rfl, Nat.zero_le _, Lib.hid (by rw [HA0.out]; simp), P2.out⟩
          case round =>
            obtain ⟨d, a, rfl, rfl, hd, had, hnw2⟩ := hrel
            by_cases hld : d < n3
            · have hldz : (d : Int) < (n3 : Int) := by omega
              have HCD := Lib.hid (HCF.out wr hnw2)
              rcases a with _ | _
              · have HN := Lib.hid (show (hasD y lost && (List.range (d + 1)).all fun (d : Nat) => hasD y (d : Int)) = false by rw [full_step, ← Bool.and_assoc, had.out]; rfl)
                go_wp2_with fail
                go_roundw
                case rel => exact ⟨d + 1, false, by go_num, rfl, by omega, HN, hnw2⟩
                case measure => simp only [intOf]; omega
              · obtain ⟨a2, ha2⟩ : ∃ q, hasD y (d : Int) = q := ⟨_, rfl⟩
                have HHd := Lib.hid (HH.out (d : Int) wr hnw2)
                rw [ha2] at HHd
                have HN := Lib.hid (show (hasD y lost && (List.range (d + 1)).all fun (d : Nat) => hasD y (d : Int)) = a2 by rw [full_step, ← Bool.and_assoc, had.out, ha2]; rfl)
                clear ha2
                go_wp2_with (first
                  | ((with_reducible refine HHd.out.mono ?_); rintro e w3' ⟨rfl, p3⟩)
                  | ((with_reducible refine wpList_load_agg 37 _ (by with_unfolding_all exact rfl) (by with_unfolding_all exact rfl) (by with_unfolding_all exact rfl) (gc y) HCD.out _ Try.underlying37 (by with_unfolding_all exact rfl) (by rw [gc_len]; kernel_rfl) ?_)))
                go_roundw
                case rel => exact ⟨d + 1, a2, by go_num, rfl, by omega, HN, gb_trans hnw2 p3⟩
                case measure => simp only [intOf]; omega
            · have HN := Lib.hid (show (gs2.take (i + 1)).any (fullP n3 lost) = (q || a) from by
                obtain ⟨hk2', rfl⟩ := List.getElem?_eq_some_iff.1 HY.out
                have hdn : d = n3 := by omega
                have := had.out
                rw [hdn] at this
                rw [List.take_succ_eq_append_getElem hk2', List.any_append, hq.out, List.any_cons, List.any_nil, Bool.or_false]
                unfold fullP
                rw [this])
              rcases q with _ | _
              · go_wp2_with fail
                go_roundw
                case rel => exact ⟨i + 1, a, by go_num, rfl, by omega, Lib.hid (by rw [HN.out]; rfl), gb_trans hnw hnw2⟩
                case measure => simp only [intOf]; omega
              · go_wp2_with fail
                go_roundw
                case rel => exact ⟨i + 1, true, by go_num, rfl, by omega, Lib.hid (by rw [HN.out]; rfl), gb_trans hnw hnw2⟩
                case measure => simp only [intOf]; omega
        · have HF := Lib.hid (show gs2.any (fullP n3 lost) = q by have := hq.out; rwa [List.take_of_length_le (by rw [GL.out]; omega)] at this)
          have MT2 := Lib.hid (MT.out.nw hnw)
          have NT2 := Lib.hid (gb_trans NT.out hnw)
          have BT2 := Lib.hid (Nat.le_trans BT.out hnw.size)
          have GT2 := Lib.hid (GT.out.nw hnw BT.out)
          clear hq hi
          go_wp2_with fail
          go_loopw [21] (fun v wr => ∃ d : Nat, v = .int .i64 d ∧ d ≤ n3 ∧ Hid (Own wr w3.heap.size 3 1 (some ⟨gm, 0, none⟩) n3 c7 ((List.replicate d ((n2 : Int) + 1) ++ ms.drop d).map iv)) ∧ Hid (wa.grownBy wr (some gm))) (fun v _ => n3 - (intOf v).toNat)
          case atStart => exact ⟨0, rfl, Nat.zero_le _, Lib.hid (by simpa using MT2.out), Lib.hid (gb_nw (Nw.refl _))⟩
          case round =>
            obtain ⟨d, rfl, hd, hod, hgd⟩ := hrel
            by_cases hld : d < n3
            · have hldz : (d : Int) < (n3 : Int) := by omega
              obtain ⟨u, _, u2, u3⟩ := hod.out.cellAt hld
              obtain ⟨p8, p9⟩ := hod.out.set d (.int .i64 ((n2 : Int) + 1))
              have P8 := Lib.hid p8; have P9 := Lib.hid p9
              have HSE := Lib.hid (show ((List.replicate d ((n2 : Int) + 1) ++ ms.drop d).map iv).set d (.int .i64 ((n2 : Int) + 1)) = (List.replicate (d + 1) ((n2 : Int) + 1) ++ ms.drop (d + 1)).map iv from by
                have hdl : d < ms.length := by rw [HML.out]; exact hld
                rw [List.drop_eq_getElem_cons hdl, List.map_append, List.set_append_right _ _ (by simp), List.map_cons]
                simp [List.replicate_succ', iv])
              clear p8 p9
              go_wp2_with fail
              go_roundw
              case rel => exact ⟨d + 1, by go_num, by omega, Lib.hid (by rw [← HSE.out]; exact P8.out), Lib.hid (gb_trans hgd.out P9.out)⟩
              case measure => simp only [intOf]; omega
            · have hdn : d = n3 := by omega
              have HOE := Lib.hid (show Own wr w3.heap.size 3 1 (some ⟨gm, 0, none⟩) n3 c7 ((List.replicate n3 (((gs2.length + 1 : Nat)) : Int)).map iv) from by
                have := hod.out
                rw [hdn, List.drop_of_length_le (by rw [HML.out]; exact Nat.le_refl _), List.append_nil] at this
                rw [GL.out]
                exact this)
              have NE := Lib.hid (show Nw w wr from nw_of_gb NT2.out hgd.out (fun z hz => by injection hz with hz; subst hz; exact Nat.le_trans N3.out.size (MT2.out.blk _ rfl)))
              have GE := Lib.hid (GT2.out.rd.gb hgd.out BT2.out (fun z hz => by injection hz with hz; subst hz; exact MT2.out.blk _ rfl))
              have GE2 := Lib.hid (show GsR wr w3.heap.size A2 n2 gs2 from ⟨GE.out, fun g hg => by
                have h := GT2.out.all g hg
                exact ⟨h.rd.gb hgd.out BT2.out (fun z hz => by injection hz with hz; subst hz; exact MT2.out.blk _ rfl), h.nc, h.cm, h.nm⟩⟩)
              have BE := Lib.hid (show w3.heap.size ≤ wr.heap.size from Nat.le_trans BT2.out hgd.out.size)
              have HS4 := Lib.hid (show Calls Try.prog 19 #[.slice A2 n2 c2, .slice (some ⟨gm, 0, none⟩) n3 c7, .int .i64 lost] wr (fun e w' => e = .returned (.bool (!q)) ∧ Nw wr w') from
                (safe_any (GE2.out.more BE.out) HOE.out.rd (Nat.le_refl _) (by omega) (by omega) (fun r hr => by rw [List.mem_replicate] at hr; rw [hr.2, GL.out]; omega) lost).mono fun e w' h => by have := safe_full h; rwa [HF.out] at this)
              have hqq : ((!q) != q) = true := by cases q <;> rfl
              clear hdn
              go_wp2_with ((with_reducible refine HS4.out.mono ?_); rintro e w9 ⟨rfl, p9⟩)
              go_ret
              exact ⟨rfl, gb_trans NE.out p9⟩
  · -- safe
    have HS2 := Lib.hid (show Calls Try.prog 19 #[.slice A2 n2 c2, .slice (some ⟨gm, 0, none⟩) n3 c7, .int .i64 lost] wx (fun e w' => e = .returned (.bool true) ∧ Nw wx w') from
      (safe_any ((GA.out.nw M3X.out (Nat.le_refl _)).more M3X.out.size) MX.out.rd (Nat.le_refl _) (by omega) (by omega) HMM.out lost).mono fun e w' h => safe_true h (HMT.out (HB1.out rfl)))
    rcases Nat.eq_zero_or_pos n2 with hg | hg
    · have hg0 : ¬ (0 : Int) < (n2 : Int) := by omega
      have hd0 : decide (0 < n2) = false := decide_eq_false (by omega)
      clear hg
      go_wp2_with ((with_reducible refine HS2.out.mono ?_); rintro e wy ⟨rfl, my⟩)
      clear hg0 hd0
      have NT := Lib.hid (gb_trans NX.out my)
      have BT := Lib.hid (show w3.heap.size ≤ wy.heap.size from (gb_trans M3X.out my).size)
      have GT := Lib.hid (GA.out.nw (gb_trans M3X.out my) (Nat.le_refl _))
      have MT := Lib.hid (MX.out.nw (my))
      go_loopw [17, 18] (fun f v wr => ∃ (i : Nat) (q : Bool), v = .int .i64 i ∧ f = .bool q ∧ i ≤ n2 ∧ Hid ((gs2.take i).any (fullP n3 lost) = q) ∧ Nw wy wr) (fun _ v _ => n2 - (intOf v).toNat)
      case atStart => exact ⟨0, false, rfl, rfl, Nat.zero_le _, Lib.hid rfl, Nw.refl _⟩
      case round =>
        obtain ⟨i, q, rfl, rfl, hi, hq, hnw⟩ := hrel
        obtain ⟨wa, rfl⟩ : ∃ q, q = wr := ⟨_, rfl⟩
        by_cases hlt : i < n2
        · have hltz : (i : Int) < (n2 : Int) := by omega
          have HGi := Lib.hid (GT.out.nw hnw BT.out)
          have HBi := Lib.hid (Nat.le_trans BT.out hnw.size)
          obtain ⟨_, b, off, y, hA, _, hy, hc⟩ := HGi.out.rd.atL gc_len (by decide) hlt
          subst hA
          have HY := Lib.hid hy
          have HC := Lib.hid hc
          have HCF := Lib.hid (show ∀ w', Nw wa w' → ∀ k u, (gc y)[k]? = some u → w'.cell? ⟨b, off + i * 3 + k, none⟩ = some u from fun w' hw k u hu => cell_nw (HC.out k u hu) hw)
          have HOK := Lib.hid (HGi.out.all y (List.mem_of_getElem? hy))
          have HH := Lib.hid (show ∀ (d : Int) w', Nw wa w' → Calls Try.prog 18 #[.agg (gc y).toArray, .int .i64 d] w' (Ret (.bool (hasD y d)) w') from fun d w' hw => rhas_any (HOK.out.nw hw HBi.out) (Nat.le_trans HBi.out hw.size) d)
          obtain ⟨a0, ha0⟩ : ∃ q, hasD y lost = q := ⟨_, rfl⟩
          have HH0 := Lib.hid (HH.out lost wa (Nw.refl _))
          rw [ha0] at HH0
          have HA0 := Lib.hid ha0
          unfold Ret at HH HH0
          clear hy hc ha0
          go_wp2_with (first
            | ((with_reducible refine HH0.out.mono ?_); rintro e w2' ⟨rfl, p2⟩)
            | ((with_reducible refine wpList_load_agg 37 _ (by with_unfolding_all exact rfl) (by with_unfolding_all exact rfl) (by with_unfolding_all exact rfl) (gc y) HC.out _ Try.underlying37 (by with_unfolding_all exact rfl) (by rw [gc_len]; kernel_rfl) ?_)))
          have P2 := Lib.hid p2
          clear p2
          go_loopw [19, 20] (fun f v wr => ∃ (d : Nat) (a : Bool), v = .int .i64 d ∧ f = .bool a ∧ d ≤ n3 ∧ Hid ((hasD y lost && (List.range d).all fun (d : Nat) => hasD y (d : Int)) = a) ∧ Nw wa wr) (fun _ v _ => n3 - (intOf v).toNat)
          case atStart => exact ⟨0, a0, rfl, rfl, Nat.zero_le _, Lib.hid (by rw [HA0.out]; simp), P2.out⟩
          case round =>
            obtain ⟨d, a, rfl, rfl, hd, had, hnw2⟩ := hrel
            by_cases hld : d < n3
            · have hldz : (d : Int) < (n3 : Int) := by omega
              have HCD := Lib.hid (HCF.out wr hnw2)
              rcases a with _ | _
              · have HN := Lib.hid (show (hasD y lost && (List.range (d + 1)).all fun (d : Nat) => hasD y (d : Int)) = false by rw [full_step, ← Bool.and_assoc, had.out]; rfl)
                go_wp2_with fail
                go_roundw
                case rel => exact ⟨d + 1, false, by go_num, rfl, by omega, HN, hnw2⟩
                case measure => simp only [intOf]; omega
              · obtain ⟨a2, ha2⟩ : ∃ q, hasD y (d : Int) = q := ⟨_, rfl⟩
                have HHd := Lib.hid (HH.out (d : Int) wr hnw2)
                rw [ha2] at HHd
                have HN := Lib.hid (show (hasD y lost && (List.range (d + 1)).all fun (d : Nat) => hasD y (d : Int)) = a2 by rw [full_step, ← Bool.and_assoc, had.out, ha2]; rfl)
                clear ha2
                go_wp2_with (first
                  | ((with_reducible refine HHd.out.mono ?_); rintro e w3' ⟨rfl, p3⟩)
                  | ((with_reducible refine wpList_load_agg 37 _ (by with_unfolding_all exact rfl) (by with_unfolding_all exact rfl) (by with_unfolding_all exact rfl) (gc y) HCD.out _ Try.underlying37 (by with_unfolding_all exact rfl) (by rw [gc_len]; kernel_rfl) ?_)))
                go_roundw
                case rel => exact ⟨d + 1, a2, by go_num, rfl, by omega, HN, gb_trans hnw2 p3⟩
                case measure => simp only [intOf]; omega
            · have HN := Lib.hid (show (gs2.take (i + 1)).any (fullP n3 lost) = (q || a) from by
                obtain ⟨hk2', rfl⟩ := List.getElem?_eq_some_iff.1 HY.out
                have hdn : d = n3 := by omega
                have := had.out
                rw [hdn] at this
                rw [List.take_succ_eq_append_getElem hk2', List.any_append, hq.out, List.any_cons, List.any_nil, Bool.or_false]
                unfold fullP
                rw [this])
              rcases q with _ | _
              · go_wp2_with fail
                go_roundw
                case rel => exact ⟨i + 1, a, by go_num, rfl, by omega, Lib.hid (by rw [HN.out]; rfl), gb_trans hnw hnw2⟩
                case measure => simp only [intOf]; omega
              · go_wp2_with fail
                go_roundw
                case rel => exact ⟨i + 1, true, by go_num, rfl, by omega, Lib.hid (by rw [HN.out]; rfl), gb_trans hnw hnw2⟩
                case measure => simp only [intOf]; omega
        · have HF := Lib.hid (show gs2.any (fullP n3 lost) = q by have := hq.out; rwa [List.take_of_length_le (by rw [GL.out]; omega)] at this)
          have MT2 := Lib.hid (MT.out.nw hnw)
          have NT2 := Lib.hid (gb_trans NT.out hnw)
          have BT2 := Lib.hid (Nat.le_trans BT.out hnw.size)
          have GT2 := Lib.hid (GT.out.nw hnw BT.out)
          clear hq hi
          go_wp2_with fail
          go_loopw [21] (fun v wr => ∃ d : Nat, v = .int .i64 d ∧ d ≤ n3 ∧ Hid (Own wr w3.heap.size 3 1 (some ⟨gm, 0, none⟩) n3 c7 ((List.replicate d ((n2 : Int) + 1) ++ ms.drop d).map iv)) ∧ Hid (wa.grownBy wr (some gm))) (fun v _ => n3 - (intOf v).toNat)
          case atStart => exact ⟨0, rfl, Nat.zero_le _, Lib.hid (by simpa using MT2.out), Lib.hid (gb_nw (Nw.refl _))⟩
          case round =>
            obtain ⟨d, rfl, hd, hod, hgd⟩ := hrel
            by_cases hld : d < n3
            · have hldz : (d : Int) < (n3 : Int) := by omega
              obtain ⟨u, _, u2, u3⟩ := hod.out.cellAt hld
              obtain ⟨p8, p9⟩ := hod.out.set d (.int .i64 ((n2 : Int) + 1))
              have P8 := Lib.hid p8; have P9 := Lib.hid p9
              have HSE := Lib.hid (show ((List.replicate d ((n2 : Int) + 1) ++ ms.drop d).map iv).set d (.int .i64 ((n2 : Int) + 1)) = (List.replicate (d + 1) ((n2 : Int) + 1) ++ ms.drop (d + 1)).map iv from by
                have hdl : d < ms.length := by rw [HML.out]; exact hld
                rw [List.drop_eq_getElem_cons hdl, List.map_append, List.set_append_right _ _ (by simp), List.map_cons]
                simp [List.replicate_succ', iv])
              clear p8 p9
              go_wp2_with fail
              go_roundw
              case rel => exact ⟨d + 1, by go_num, by omega, Lib.hid (by rw [← HSE.out]; exact P8.out), Lib.hid (gb_trans hgd.out P9.out)⟩
              case measure => simp only [intOf]; omega
            · have hdn : d = n3 := by omega
              have HOE := Lib.hid (show Own wr w3.heap.size 3 1 (some ⟨gm, 0, none⟩) n3 c7 ((List.replicate n3 (((gs2.length + 1 : Nat)) : Int)).map iv) from by
                have := hod.out
                rw [hdn, List.drop_of_length_le (by rw [HML.out]; exact Nat.le_refl _), List.append_nil] at this
                rw [GL.out]
                exact this)
              have NE := Lib.hid (show Nw w wr from nw_of_gb NT2.out hgd.out (fun z hz => by injection hz with hz; subst hz; exact Nat.le_trans N3.out.size (MT2.out.blk _ rfl)))
              have GE := Lib.hid (GT2.out.rd.gb hgd.out BT2.out (fun z hz => by injection hz with hz; subst hz; exact MT2.out.blk _ rfl))
              have GE2 := Lib.hid (show GsR wr w3.heap.size A2 n2 gs2 from ⟨GE.out, fun g hg => by
                have h := GT2.out.all g hg
                exact ⟨h.rd.gb hgd.out BT2.out (fun z hz => by injection hz with hz; subst hz; exact MT2.out.blk _ rfl), h.nc, h.cm, h.nm⟩⟩)
              have BE := Lib.hid (show w3.heap.size ≤ wr.heap.size from Nat.le_trans BT2.out hgd.out.size)
              have HS4 := Lib.hid (show Calls Try.prog 19 #[.slice A2 n2 c2, .slice (some ⟨gm, 0, none⟩) n3 c7, .int .i64 lost] wr (fun e w' => e = .returned (.bool (!q)) ∧ Nw wr w') from
                (safe_any (GE2.out.more BE.out) HOE.out.rd (Nat.le_refl _) (by omega) (by omega) (fun r hr => by rw [List.mem_replicate] at hr; rw [hr.2, GL.out]; omega) lost).mono fun e w' h => by have := safe_full h; rwa [HF.out] at this)
              have hqq : ((!q) != q) = true := by cases q <;> rfl
              clear hdn
              go_wp2_with ((with_reducible refine HS4.out.mono ?_); rintro e w9 ⟨rfl, p9⟩)
              go_ret
              exact ⟨rfl, gb_trans NE.out p9⟩
    · have hg0 : (0 : Int) < (n2 : Int) := by omega
      have hd0 : decide (0 < n2) = true := decide_eq_true (by omega)
      have e16 : bits .and .i64 (at' / 2 ^ 16) 65535 = at' / 2 ^ 16 % 65536 := and_mask (at' / 2 ^ 16) 16 (by decide)
      have e17 : bits .and .i64 (at' / 65536) 65535 = at' / 65536 % 65536 := and_mask (at' / 65536) 16 (by decide)
      have hg1 : ¬ (n2 : Int) = 0 := by omega
      obtain ⟨nn, hnn⟩ : ∃ nn : Nat, (at' / 65536 % 65536).tmod (n2 : Int) = (nn : Int) ∧ nn < n2 := by
        have h1 : 0 ≤ at' / 65536 % 65536 := Int.emod_nonneg _ (by decide)
        refine ⟨((at' / 65536 % 65536) % (n2 : Int)).toNat, ?_, ?_⟩
        · rw [Int.tmod_eq_emod_of_nonneg h1, Int.toNat_of_nonneg (Int.emod_nonneg _ (by omega))]
        · have h2 := Int.emod_lt_of_pos (at' / 65536 % 65536) (show (0 : Int) < (n2 : Int) by omega)
          have h3 := Int.emod_nonneg (at' / 65536 % 65536) (show (n2 : Int) ≠ 0 by omega)
          omega
      obtain ⟨hn1', hn2'⟩ := hnn
      have E1 := Lib.hid (show (nn : Int) + 1 = ((nn + 1 : Nat) : Int) by omega)
      have E2 := Lib.hid (show nn + 1 ≤ n2 by omega)
      have HAC := Lib.hid hac
      have HC2 := Lib.hid (show nn ≤ c2 by omega)
      have o16 := gc_one (gs2.take nn)
      have o17 := gc_one (gs2.drop (nn + 1))
      have hs16 : nn * 40 ≤ 140737488355328 ∧ nn ≤ maxLen := by unfold maxLen; omega
      have hs17 : (nn + (n2 - (nn + 1))) * 40 ≤ 140737488355328 ∧ nn + (n2 - (nn + 1)) ≤ maxLen := by unfold maxLen; omega
      have HLE := Lib.hid (show ∀ w5, Nw w3 w5 → Rd w5 w3.heap.size 3 A2 nn (fl gc (gs2.take nn)) ∧ GsR w5 w3.heap.size (cutA A2 c2 (nn + 1) 3) (n2 - (nn + 1)) (gs2.drop (nn + 1)) ∧ w3.heap.size ≤ w5.heap.size from fun w5 h =>
        ⟨(GA.out.nw h (Nat.le_refl _)).rd.takeL gc_len (by omega), (GA.out.nw h (Nat.le_refl _)).dropG (by omega) hac, h.size⟩)
      have HS3 := Lib.hid (show ∀ w5 A5 c5, Nw w3 w5 → (∃ base, Own w5 base 37 3 A5 (nn + (n2 - (nn + 1))) c5 (fl gc (gs2.take nn) ++ fl gc (gs2.drop (nn + 1)))) → Calls Try.prog 19 #[.slice A5 (nn + (n2 - (nn + 1))) c5, .slice A3 n3 c3, .int .i64 lost] w5 (fun e w' => e = .returned (.bool true) ∧ Nw w5 w') from by
        rintro w5 A5 c5 h ⟨base, o5⟩
        rw [← fl_app] at o5
        have g5 : GsR w5 w5.heap.size A5 (nn + (n2 - (nn + 1))) (gs2.take nn ++ gs2.drop (nn + 1)) := ⟨o5.rd, fun g hg => ((GA.out.nw h (Nat.le_refl _)).all g ((cut_sub gs2 nn).subset hg)).more h.size⟩
        exact (safe_any g5 ((RS.out.nw h (Nat.le_refl _)).more h.size) (Nat.le_refl _) (by omega) (by omega) (fun r hr => Int.le_trans (HM.out r hr) (by decide)) lost).mono fun e w' k => safe_true k (Mt_sub (needs_sub (cut_sub gs2 nn) lost) _ (HB1.out rfl)))
      go_wp2_with (first
        | ((with_reducible refine (HS3.out _ _ _ (gb_trans (gb_trans M3X.out my) Q68.out) ⟨_, r2⟩).mono ?_); rintro e wz ⟨rfl, mz⟩)
        | (at_builtin; (with_reducible refine wpList_app_own T28 _ _ (by with_unfolding_all exact rfl) (by with_unfolding_all exact rfl) (by with_unfolding_all exact rfl) (by with_unfolding_all exact rfl) o6 (HLE.out _ (gb_trans (gb_trans M3X.out my) q6)).2.1.rd o17 hs17 HB6.out ?_); intro A8 c8 w8 r2 r3 r4; have Q68 := Lib.hid (nw_of_gb q6 r3 (fun z hz => o6.blk z hz)))
        | ((with_reducible refine wpList_slice_lo 28 37 Try.underlying28 3 (by kernel_rfl) _ _ (by with_unfolding_all exact rfl) (by with_unfolding_all exact rfl) A2 n2 c2 (nn + 1) _ (by with_unfolding_all exact rfl) (by with_unfolding_all exact rfl) E1.out E2.out HAC.out (by with_unfolding_all exact rfl) (by with_unfolding_all exact rfl) (by with_unfolding_all exact rfl) ?_))
        | (at_builtin; (with_reducible refine wpList_app_lit T28 _ _ (by with_unfolding_all exact rfl) (by with_unfolding_all exact rfl) wy.heap.size (by with_unfolding_all exact rfl) (by with_unfolding_all exact rfl) (HLE.out _ (gb_trans M3X.out my)).1 (HLE.out _ (gb_trans M3X.out my)).2.2 o16 hs16 (Nat.le_refl _) ?_); intro A6 c6 w6 o6 q6; have HB6 := Lib.hid (q6.size))
        | ((with_reducible refine wpList_slice_hi 28 37 Try.underlying28 (size := 3) (by kernel_rfl) _ _ (by with_unfolding_all exact rfl) (by with_unfolding_all exact rfl) A2 n2 c2 nn (by with_unfolding_all exact rfl) (by with_unfolding_all exact rfl) HC2.out ?_))
        | ((with_reducible refine HS2.out.mono ?_); rintro e wy ⟨rfl, my⟩))
      clear o16 o17 r2 r4 o6
      clear hg0 hd0
      have NT := Lib.hid (gb_trans NX.out (gb_trans my (gb_trans Q68.out mz)))
      have BT := Lib.hid (show w3.heap.size ≤ wz.heap.size from (gb_trans M3X.out (gb_trans my (gb_trans Q68.out mz))).size)
      have GT := Lib.hid (GA.out.nw (gb_trans M3X.out (gb_trans my (gb_trans Q68.out mz))) (Nat.le_refl _))
      have MT := Lib.hid (MX.out.nw (gb_trans my (gb_trans Q68.out mz)))
      go_loopw [17, 18] (fun f v wr => ∃ (i : Nat) (q : Bool), v = .int .i64 i ∧ f = .bool q ∧ i ≤ n2 ∧ Hid ((gs2.take i).any (fullP n3 lost) = q) ∧ Nw wz wr) (fun _ v _ => n2 - (intOf v).toNat)
      case atStart => exact ⟨0, false, rfl, rfl, Nat.zero_le _, Lib.hid rfl, Nw.refl _⟩
      case round =>
        obtain ⟨i, q, rfl, rfl, hi, hq, hnw⟩ := hrel
        obtain ⟨wa, rfl⟩ : ∃ q, q = wr := ⟨_, rfl⟩
        by_cases hlt : i < n2
        · have hltz : (i : Int) < (n2 : Int) := by omega
          have HGi := Lib.hid (GT.out.nw hnw BT.out)
          have HBi := Lib.hid (Nat.le_trans BT.out hnw.size)
          obtain ⟨_, b, off, y, hA, _, hy, hc⟩ := HGi.out.rd.atL gc_len (by decide) hlt
          subst hA
          have HY := Lib.hid hy
          have HC := Lib.hid hc
          have HCF := Lib.hid (show ∀ w', Nw wa w' → ∀ k u, (gc y)[k]? = some u → w'.cell? ⟨b, off + i * 3 + k, none⟩ = some u from fun w' hw k u hu => cell_nw (HC.out k u hu) hw)
          have HOK := Lib.hid (HGi.out.all y (List.mem_of_getElem? hy))
          have HH := Lib.hid (show ∀ (d : Int) w', Nw wa w' → Calls Try.prog 18 #[.agg (gc y).toArray, .int .i64 d] w' (Ret (.bool (hasD y d)) w') from fun d w' hw => rhas_any (HOK.out.nw hw HBi.out) (Nat.le_trans HBi.out hw.size) d)
          obtain ⟨a0, ha0⟩ : ∃ q, hasD y lost = q := ⟨_, rfl⟩
          have HH0 := Lib.hid (HH.out lost wa (Nw.refl _))
          rw [ha0] at HH0
          have HA0 := Lib.hid ha0
          unfold Ret at HH HH0
          clear hy hc ha0
          go_wp2_with (first
            | ((with_reducible refine HH0.out.mono ?_); rintro e w2' ⟨rfl, p2⟩)
            | ((with_reducible refine wpList_load_agg 37 _ (by with_unfolding_all exact rfl) (by with_unfolding_all exact rfl) (by with_unfolding_all exact rfl) (gc y) HC.out _ Try.underlying37 (by with_unfolding_all exact rfl) (by rw [gc_len]; kernel_rfl) ?_)))
          have P2 := Lib.hid p2
          clear p2
          go_loopw [19, 20] (fun f v wr => ∃ (d : Nat) (a : Bool), v = .int .i64 d ∧ f = .bool a ∧ d ≤ n3 ∧ Hid ((hasD y lost && (List.range d).all fun (d : Nat) => hasD y (d : Int)) = a) ∧ Nw wa wr) (fun _ v _ => n3 - (intOf v).toNat)
          case atStart => exact ⟨0, a0, rfl, rfl, Nat.zero_le _, Lib.hid (by rw [HA0.out]; simp), P2.out⟩
          case round =>
            obtain ⟨d, a, rfl, rfl, hd, had, hnw2⟩ := hrel
            by_cases hld : d < n3
            · have hldz : (d : Int) < (n3 : Int) := by omega
              have HCD := Lib.hid (HCF.out wr hnw2)
              rcases a with _ | _
              · have HN := Lib.hid (show (hasD y lost && (List.range (d + 1)).all fun (d : Nat) => hasD y (d : Int)) = false by rw [full_step, ← Bool.and_assoc, had.out]; rfl)
                go_wp2_with fail
                go_roundw
                case rel => exact ⟨d + 1, false, by go_num, rfl, by omega, HN, hnw2⟩
                case measure => simp only [intOf]; omega
              · obtain ⟨a2, ha2⟩ : ∃ q, hasD y (d : Int) = q := ⟨_, rfl⟩
                have HHd := Lib.hid (HH.out (d : Int) wr hnw2)
                rw [ha2] at HHd
                have HN := Lib.hid (show (hasD y lost && (List.range (d + 1)).all fun (d : Nat) => hasD y (d : Int)) = a2 by rw [full_step, ← Bool.and_assoc, had.out, ha2]; rfl)
                clear ha2
                go_wp2_with (first
                  | ((with_reducible refine HHd.out.mono ?_); rintro e w3' ⟨rfl, p3⟩)
                  | ((with_reducible refine wpList_load_agg 37 _ (by with_unfolding_all exact rfl) (by with_unfolding_all exact rfl) (by with_unfolding_all exact rfl) (gc y) HCD.out _ Try.underlying37 (by with_unfolding_all exact rfl) (by rw [gc_len]; kernel_rfl) ?_)))
                go_roundw
                case rel => exact ⟨d + 1, a2, by go_num, rfl, by omega, HN, gb_trans hnw2 p3⟩
                case measure => simp only [intOf]; omega
            · have HN := Lib.hid (show (gs2.take (i + 1)).any (fullP n3 lost) = (q || a) from by
                obtain ⟨hk2', rfl⟩ := List.getElem?_eq_some_iff.1 HY.out
                have hdn : d = n3 := by omega
                have := had.out
                rw [hdn] at this
                rw [List.take_succ_eq_append_getElem hk2', List.any_append, hq.out, List.any_cons, List.any_nil, Bool.or_false]
                unfold fullP
                rw [this])
              rcases q with _ | _
              · go_wp2_with fail
                go_roundw
                case rel => exact ⟨i + 1, a, by go_num, rfl, by omega, Lib.hid (by rw [HN.out]; rfl), gb_trans hnw hnw2⟩
                case measure => simp only [intOf]; omega
              · go_wp2_with fail
                go_roundw
                case rel => exact ⟨i + 1, true, by go_num, rfl, by omega, Lib.hid (by rw [HN.out]; rfl), gb_trans hnw hnw2⟩
                case measure => simp only [intOf]; omega
        · have HF := Lib.hid (show gs2.any (fullP n3 lost) = q by have := hq.out; rwa [List.take_of_length_le (by rw [GL.out]; omega)] at this)
          have MT2 := Lib.hid (MT.out.nw hnw)
          have NT2 := Lib.hid (gb_trans NT.out hnw)
          have BT2 := Lib.hid (Nat.le_trans BT.out hnw.size)
          have GT2 := Lib.hid (GT.out.nw hnw BT.out)
          clear hq hi
          go_wp2_with fail
          go_loopw [21] (fun v wr => ∃ d : Nat, v = .int .i64 d ∧ d ≤ n3 ∧ Hid (Own wr w3.heap.size 3 1 (some ⟨gm, 0, none⟩) n3 c7 ((List.replicate d ((n2 : Int) + 1) ++ ms.drop d).map iv)) ∧ Hid (wa.grownBy wr (some gm))) (fun v _ => n3 - (intOf v).toNat)
          case atStart => exact ⟨0, rfl, Nat.zero_le _, Lib.hid (by simpa using MT2.out), Lib.hid (gb_nw (Nw.refl _))⟩
          case round =>
            obtain ⟨d, rfl, hd, hod, hgd⟩ := hrel
            by_cases hld : d < n3
            · have hldz : (d : Int) < (n3 : Int) := by omega
              obtain ⟨u, _, u2, u3⟩ := hod.out.cellAt hld
              obtain ⟨p8, p9⟩ := hod.out.set d (.int .i64 ((n2 : Int) + 1))
              have P8 := Lib.hid p8; have P9 := Lib.hid p9
              have HSE := Lib.hid (show ((List.replicate d ((n2 : Int) + 1) ++ ms.drop d).map iv).set d (.int .i64 ((n2 : Int) + 1)) = (List.replicate (d + 1) ((n2 : Int) + 1) ++ ms.drop (d + 1)).map iv from by
                have hdl : d < ms.length := by rw [HML.out]; exact hld
                rw [List.drop_eq_getElem_cons hdl, List.map_append, List.set_append_right _ _ (by simp), List.map_cons]
                simp [List.replicate_succ', iv])
              clear p8 p9
              go_wp2_with fail
              go_roundw
              case rel => exact ⟨d + 1, by go_num, by omega, Lib.hid (by rw [← HSE.out]; exact P8.out), Lib.hid (gb_trans hgd.out P9.out)⟩
              case measure => simp only [intOf]; omega
            · have hdn : d = n3 := by omega
              have HOE := Lib.hid (show Own wr w3.heap.size 3 1 (some ⟨gm, 0, none⟩) n3 c7 ((List.replicate n3 (((gs2.length + 1 : Nat)) : Int)).map iv) from by
                have := hod.out
                rw [hdn, List.drop_of_length_le (by rw [HML.out]; exact Nat.le_refl _), List.append_nil] at this
                rw [GL.out]
                exact this)
              have NE := Lib.hid (show Nw w wr from nw_of_gb NT2.out hgd.out (fun z hz => by injection hz with hz; subst hz; exact Nat.le_trans N3.out.size (MT2.out.blk _ rfl)))
              have GE := Lib.hid (GT2.out.rd.gb hgd.out BT2.out (fun z hz => by injection hz with hz; subst hz; exact MT2.out.blk _ rfl))
              have GE2 := Lib.hid (show GsR wr w3.heap.size A2 n2 gs2 from ⟨GE.out, fun g hg => by
                have h := GT2.out.all g hg
                exact ⟨h.rd.gb hgd.out BT2.out (fun z hz => by injection hz with hz; subst hz; exact MT2.out.blk _ rfl), h.nc, h.cm, h.nm⟩⟩)
              have BE := Lib.hid (show w3.heap.size ≤ wr.heap.size from Nat.le_trans BT2.out hgd.out.size)
              have HS4 := Lib.hid (show Calls Try.prog 19 #[.slice A2 n2 c2, .slice (some ⟨gm, 0, none⟩) n3 c7, .int .i64 lost] wr (fun e w' => e = .returned (.bool (!q)) ∧ Nw wr w') from
                (safe_any (GE2.out.more BE.out) HOE.out.rd (Nat.le_refl _) (by omega) (by omega) (fun r hr => by rw [List.mem_replicate] at hr; rw [hr.2, GL.out]; omega) lost).mono fun e w' h => by have := safe_full h; rwa [HF.out] at this)
              have hqq : ((!q) != q) = true := by cases q <;> rfl
              clear hdn
              go_wp2_with ((with_reducible refine HS4.out.mono ?_); rintro e w9 ⟨rfl, p9⟩)
              go_ret
              exact ⟨rfl, gb_trans NE.out p9⟩
end Go.Proofs.Ytobifmndpkjlmaa


