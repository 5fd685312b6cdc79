/- The law GroupSpares, walked: with as much room as the fullest has, spread over two that nobody has, all may be lost. -/
import Derived.Test.YtobifmndpkjlmaaJO
set_option linter.unusedVariables false
set_option linter.unusedSimpArgs false
namespace Go.Proofs.Ytobifmndpkjlmaa
open Go.RowKit Go.BW

theorem et_one (a b : Int) : ∀ u ∈ [Value.int .i64 a, .int .i64 b], u.oneCell' = true := by
  intro u hu; simp at hu; rcases hu with rfl | rfl <;> rfl
def sv (sn : List Bool) : Array Value := (sn.map Value.bool).toArray
theorem sv_at {sn : List Bool} {d : Nat} (h : d < sn.length) : (sv sn)[d]? = some (.bool (sn.getD d false)) := by
  unfold sv; simp [List.getD_eq_getElem?_getD, h]
theorem sv_set (sn : List Bool) (d : Nat) : (sv sn).setIfInBounds d (.bool true) = sv (sn.set d true) := by
  unfold sv; rw [List.setIfInBounds_toArray, List.map_set]
/-- which disks are seen -/
def SeenIs (sn : List Bool) (es : List Et) : Prop := sn.length = 6 ∧ ∀ d : Nat, d < 6 → (sn.getD d false = true ↔ (d : Int) ∈ es.map (·.dk))
theorem seen_old {sn : List Bool} {es : List Et} {d : Nat} (h : SeenIs sn es) (hd : d < 6) (hs : sn.getD d false = true) : SeenIs (sn.set d true) es := by
  refine ⟨by rw [List.length_set]; exact h.1, fun e he => ?_⟩
  rw [← h.2 e he]
  simp only [List.getD_eq_getElem?_getD, List.getElem?_set]
  by_cases hde : d = e
  · subst hde
    have : d < sn.length := by rw [h.1]; exact hd
    simp only [List.getD_eq_getElem?_getD] at hs
    rw [List.getElem?_eq_getElem this, Option.getD_some] at hs
    simp [this, hs]
  · rw [if_neg hde]
theorem seen_new {sn : List Bool} {es : List Et} {d : Nat} (h : SeenIs sn es) (hd : d < 6) : SeenIs (sn.set d true) (es ++ [⟨d, 0⟩]) := by
  refine ⟨by rw [List.length_set]; exact h.1, fun e he => ?_⟩
  rw [List.map_append, List.mem_append, ← h.2 e he]
  simp only [List.getD_eq_getElem?_getD, List.getElem?_set]
  by_cases hde : d = e
  · subst hde
    have : d < sn.length := by rw [h.1]; exact hd
    simp [this]
  · rw [if_neg hde]
    constructor
    · intro h1; exact .inl h1
    · rintro (h1 | h1)
      · exact h1
      · simp at h1; omega
set_option maxRecDepth 100000 in
set_option maxHeartbeats 32000000 in
theorem gspares_all {w : World} (A0 : Option Addr) (n0 c0 : Nat) (gs0 : List Gp) (h0 : InL w gc 3 (GIn w) A0 n0 c0 gs0) (at' : Int) (_ha : -9223372036854775808 ≤ at' ∧ at' ≤ 9223372036854775807) :
    Calls Try.prog 8 #[.slice A0 n0 c0, .int .i64 at'] w (Ret (.bool true) w) := by
  obtain ⟨hgi, hn0⟩ := InL.gsi h0
  have HGI := Lib.hid hgi
  have HGL := Lib.hid hgi.len
  have SH := Lib.hid (fun w' => shown_any w')
  unfold Ret at SH
  clear hgi h0
  go_enter Try.func8, Try.ntmps8
  go_wp2_with ((with_reducible refine (SH.out _).mono ?_); rintro e w1 ⟨rfl, n1'⟩)
  have N1 := Lib.hid n1'
  clear n1' SH
  go_loopw [6, 7] (fun s v wr => ∃ (k : Nat) (A' : Option Addr) (c' : Nat) (gs : List Gp), v = .int .i64 k ∧ s = .slice A' k c' ∧ k ≤ 16 ∧ k ≤ n0 ∧ Hid (Own wr w.heap.size 37 3 A' k c' (fl gc gs)) ∧ Hid (GsO wr w.heap.size gs) ∧ Hid (∀ g ∈ gs, GoodE g.es ∧ g.n ≤ 6) ∧ Nw w wr) (fun _ v _ => n0 - (intOf v).toNat)
  case atStart => exact ⟨0, none, 0, [], rfl, rfl, Nat.zero_le _, Nat.zero_le _, Lib.hid Own.nil, Lib.hid GsO.nil, Lib.hid (by simp), N1.out⟩
  case round =>
    obtain ⟨k, A', c', gs, rfl, rfl, hk, hkn, ho, hgo, hgd, hnw⟩ := hrel
    obtain ⟨wa, rfl⟩ : ∃ q, q = wr := ⟨_, rfl⟩
    by_cases hway : k < n0 ∧ k < 16
    · obtain ⟨hlt, h16⟩ := hway
      have hltz : (k : Int) < (n0 : Int) := by omega
      have h16z : (k : Int) < 16 := by omega
      have HG3 := Lib.hid (HGI.out.nw hnw (Nat.le_refl _))
      have HB3 := Lib.hid (show w.heap.size ≤ wa.heap.size from hnw.size)
      obtain ⟨_, b, off, x, hA, hbB, hx, hcx⟩ := HG3.out.rd.atL gc_len (by decide) hlt
      subst hA
      have HC := Lib.hid (show ∀ w', Nw wa w' → w'.cell? ⟨b, off + k * 3 + 2, none⟩ = some (.slice x.A x.n x.c) from fun w' hw => cell_nw (hcx 2 _ rfl) hw)
      have HOK := Lib.hid (HG3.out.all x (List.mem_of_getElem? hx))
      clear hx hcx
      obtain ⟨xi, xk, xA, xn, xc, xe⟩ := x
      simp only at HC
      have HXL := Lib.hid (show xe.length = xn from HOK.out.len)
      have HRD := Lib.hid (show Rd wa w.heap.size 2 xA xn (fl ec xe) from HOK.out.rd)
      go_upto_region 8 with fail
      have hb1 := obj_fst wa 37 #[.int .i64 0, .int .i64 0, .slice none 0 0] (.cells #[.bool false, .bool false, .bool false, .bool false, .bool false, .bool false] 43)
      have hb2 := obj_snd wa (.cells #[.int .i64 0, .int .i64 0, .slice none 0 0] 37) 43 #[.bool false, .bool false, .bool false, .bool false, .bool false, .bool false]
      have hn2 := gb_trans (World.grownBy_alloc wa (.cells #[.int .i64 0, .int .i64 0, .slice none 0 0] 37) none) (World.grownBy_alloc _ (.cells #[.bool false, .bool false, .bool false, .bool false, .bool false, .bool false] 43) none)
      obtain ⟨W, hW⟩ : ∃ W, (wa.alloc (.cells #[.int .i64 0, .int .i64 0, .slice none 0 0] 37)).alloc (.cells #[.bool false, .bool false, .bool false, .bool false, .bool false, .bool false] 43) = W := ⟨_, rfl⟩
      rw [hW] at hb1 hb2 hn2 ⊢
      obtain ⟨y, hy⟩ : ∃ y, wa.heap.size = y := ⟨_, rfl⟩
      rw [hy] at hb1 hb2 ⊢
      have HY := Lib.hid hy
      have HB1 := Lib.hid hb1; have HB2 := Lib.hid (show Obj1 W (y + 1) 43 (sv [false, false, false, false, false, false]) from hb2); have N2 := Lib.hid hn2
      clear hW hy hb1 hb2 hn2
      go_wp2_with fail
      go_loopw [10] (fun v wr => ∃ (j q c3 : Nat) (A3 : Option Addr) (es : List Et) (sn : List Bool), v = .int .i64 j ∧ j ≤ 6 ∧ j ≤ xn ∧ q ≤ j ∧ Obj1 wr y 37 #[.int .i64 0, .int .i64 0, .slice A3 q c3] ∧ Obj1 wr (y + 1) 43 (sv sn) ∧ Hid (Own wr y 39 2 A3 q c3 (fl ec es)) ∧ Hid (GoodE es) ∧ Hid (SeenIs sn es) ∧ Nw wa wr) (fun v _ => xn - (intOf v).toNat)
      case atStart => exact ⟨0, 0, 0, none, [], [false, false, false, false, false, false], rfl, by omega, Nat.zero_le _, Nat.le_refl _, HB1.out, HB2.out, Lib.hid Own.nil, Lib.hid ⟨by simp, by simp⟩, Lib.hid ⟨rfl, fun d hd => by
        have : d = 0 ∨ d = 1 ∨ d = 2 ∨ d = 3 ∨ d = 4 ∨ d = 5 := by omega
        rcases this with rfl | rfl | rfl | rfl | rfl | rfl <;> simp⟩, N2.out⟩
      case round =>
        obtain ⟨j, q, c3, A3, es, sn, rfl, hj6, hjn, hqj, hbx, hbs, how, hge, hse, hnw2⟩ := hrel
        have hcx := HC.out wr hnw2
        by_cases hway2 : j < xn ∧ j < 6
        · obtain ⟨hl2, h6⟩ := hway2
          have hl2z : (j : Int) < (xn : Int) := by omega
          have h6z : (j : Int) < 6 := by omega
          obtain ⟨e, he⟩ : ∃ e, xe[j]? = some e := ⟨_, List.getElem?_eq_getElem (by rw [HXL.out]; exact hl2)⟩
          obtain ⟨eb, eo, hE, hce, _⟩ := ecells (HRD.out.nw hnw2 HB3.out) he
          subst hE
          obtain ⟨qd, qp⟩ := e
          simp only at hce
          obtain ⟨dd, hdd, hd6⟩ : ∃ dd : Nat, (qd % 65536).tmod 6 = (dd : Int) ∧ dd < 6 := by
            have h1 : 0 ≤ qd % 65536 := Int.emod_nonneg _ (by decide)
            refine ⟨((qd % 65536) % 6).toNat, ?_, by omega⟩
            rw [Int.tmod_eq_emod_of_nonneg h1, Int.toNat_of_nonneg (Int.emod_nonneg _ (by decide))]
          have e1 : bits .and .i64 qd 65535 = qd % 65536 := and_mask qd 16 (by decide)
          have hdz : (dd : Int) < 6 := by omega
          have hsl : dd < sn.length := by rw [hse.out.1]; exact hd6
          have hcs : wr.cell? ⟨y + 1, dd, none⟩ = some (.bool (sn.getD dd false)) := (hbs.cell dd).trans (sv_at hsl)
          have hfs := hbs.frozen dd
          have HBX := Lib.hid hbx; have HBS := Lib.hid hbs
          obtain ⟨s, hs⟩ : ∃ s, sn.getD dd false = s := ⟨_, rfl⟩
          rw [hs] at hcs
          have HSV := Lib.hid hs
          clear he hs
          rcases s with _ | _
          · -- a new one
            have hno : (dd : Int) ∉ es.map (·.dk) := fun h => by
              have := (hse.out.2 dd hd6).2 h
              rw [HSV.out] at this; cases this
            have HGE := Lib.hid (good_snoc hge.out (by omega) hdz hno)
            have HSE := Lib.hid (seen_new hse.out hd6)
            have hsm : (q + 1) * 16 ≤ 140737488355328 ∧ q + 1 ≤ maxLen := by unfold maxLen; omega
            have hsz : y ≤ wr.heap.size := Nat.le_of_lt hbx.lt
            have h5 := Lib.hid (show ∀ A4 c4 w5, wr.grownBy w5 (Value.slice A3 q c3).ownBlock → Obj1 w5 y 37 #[.int .i64 0, .int .i64 0, .slice A3 q c3] ∧ Obj1 w5 (y + 1) 43 (sv sn) ∧ w5.cell? ⟨y, 2, none⟩ = some (.slice A3 q c3) ∧ w5.frozen? ⟨y, 2, none⟩ = false ∧
                (w5.setCell ⟨y, 2, none⟩ (.slice A4 (q + 1) c4)).cell? ⟨y + 1, dd, none⟩ = some (.bool false) ∧ (w5.setCell ⟨y, 2, none⟩ (.slice A4 (q + 1) c4)).frozen? ⟨y + 1, dd, none⟩ = false from fun A4 c4 w5 h => by
              have k1 : Obj1 w5 y 37 #[.int .i64 0, .int .i64 0, .slice A3 q c3] := HBX.out.eq (h.block _ HBX.out.lt fun e => by
                obtain ⟨cur, hc⟩ := how.out.rowObj _ e.symm
                exact hc.ne HBX.out (by decide) rfl)
              have k2 : Obj1 w5 (y + 1) 43 (sv sn) := HBS.out.eq (h.block _ HBS.out.lt fun e => by
                obtain ⟨cur, hc⟩ := how.out.rowObj _ e.symm
                exact hc.ne HBS.out (by decide) rfl)
              have g6 : w5.grownBy (w5.setCell ⟨y, 2, none⟩ (.slice A4 (q + 1) c4)) (some y) := gb_set (gb_nw (Nw.refl w5)) (.inl rfl) _
              have k3 : Obj1 (w5.setCell ⟨y, 2, none⟩ (.slice A4 (q + 1) c4)) (y + 1) 43 (sv sn) := k2.eq (g6.block _ k2.lt (by intro e; injection e with e; omega))
              exact ⟨k1, k2, k1.cell 2, k1.frozen 2, (k3.cell dd).trans (by rw [sv_at hsl, HSV.out]), k3.frozen dd⟩)
            have hb2' := hbx.cell 2
            change wr.cell? ⟨y, 2, none⟩ = some (.slice A3 q c3) at hb2'
            clear hno hbx hbs hfs
            go_wp2_with (first
              | (at_builtin; (with_reducible refine wpList_appN_own (cs := [.int .i64 (dd : Int), .int .i64 0]) T35 _ _ (by with_unfolding_all exact rfl) (by with_unfolding_all exact rfl) (by with_unfolding_all exact rfl) (by with_unfolding_all exact rfl) how.out (by with_unfolding_all exact rfl) (et_one _ _) hsm hsz ?_); intro A4 c4 w5 r2 r3 r4; obtain ⟨k1, k2, k3, k4, k5, k6⟩ := h5.out A4 c4 w5 r3))
            have K1 := Lib.hid k1; have K2 := Lib.hid k2
            have G6 : w5.grownBy (w5.setCell ⟨y, 2, none⟩ (.slice A4 (q + 1) c4)) (some y) := gb_set (gb_nw (Nw.refl w5)) (.inl rfl) _
            have B6 := K1.out.set 2 (.slice A4 (q + 1) c4)
            have S6 : Obj1 (w5.setCell ⟨y, 2, none⟩ (.slice A4 (q + 1) c4)) (y + 1) 43 (sv sn) := K2.out.eq (G6.block _ K2.out.lt (by intro e; injection e with e; omega))
            have O6 := r2.kept G6 (fun r hr e => by
              injection hr with hr; subst hr
              obtain ⟨cur, hc⟩ := r2.rowObj _ e
              exact hc.ne K1.out (by decide) rfl)
            have N5 : Nw wa w5 := nw_of_gb hnw2 r3 (fun z hz => by rw [HY.out]; exact how.out.blk z hz)
            have N6 := nw_of_gb N5 G6 (fun z hz => by injection hz with hz; subst hz; rw [HY.out]; exact Nat.le_refl _)
            obtain ⟨w6, hw6⟩ : ∃ w6, w5.setCell ⟨y, 2, none⟩ (.slice A4 (q + 1) c4) = w6 := ⟨_, rfl⟩
            rw [hw6] at B6 S6 O6 N6 ⊢
            have G7 : w6.grownBy (w6.setCell ⟨y + 1, dd, none⟩ (.bool true)) (some (y + 1)) := gb_set (gb_nw (Nw.refl w6)) (.inl rfl) _
            have S7 := S6.set dd (.bool true)
            rw [sv_set] at S7
            have B7 := B6.eq (G7.block _ B6.lt (by intro e; injection e with e; omega))
            have O7 := O6.kept G7 (fun r hr e => by
              injection hr with hr; subst hr
              obtain ⟨cur, hc⟩ := O6.rowObj _ e
              exact hc.ne S6 (by decide) rfl)
            have N7 := nw_of_gb N6 G7 (fun z hz => by injection hz with hz; subst hz; have := HY.out; omega)
            clear k1 k2 k3 k4 k5 k6 G6 G7 hw6 r3 r4
            go_roundw
            case rel => exact ⟨j + 1, q + 1, c4, A4, es ++ [⟨dd, 0⟩], sn.set dd true, by go_num, by omega, by omega, by omega, B7, S7, Lib.hid (by rw [fl_app, fl_one]; exact O7), HGE, HSE, N7⟩
            case measure => simp only [intOf]; omega
          · have HSE := Lib.hid (seen_old hse.out hd6 HSV.out)
            clear hbx hbs
            go_wp2_with fail
            have G7 : wr.grownBy (wr.setCell ⟨y + 1, dd, none⟩ (.bool true)) (some (y + 1)) := gb_set (gb_nw (Nw.refl wr)) (.inl rfl) _
            have S7 := HBS.out.set dd (.bool true)
            rw [sv_set] at S7
            have B7 := HBX.out.eq (G7.block _ HBX.out.lt (by intro e; injection e with e; omega))
            have O7 := how.out.kept G7 (fun r hr e => by
              injection hr with hr; subst hr
              obtain ⟨cur, hc⟩ := how.out.rowObj _ e
              exact hc.ne HBS.out (by decide) rfl)
            have N7 := nw_of_gb hnw2 G7 (fun z hz => by injection hz with hz; subst hz; have := HY.out; omega)
            clear G7
            go_roundw
            case rel => exact ⟨j + 1, q, c3, A3, es, sn.set dd true, by go_num, by omega, by omega, by omega, B7, S7, Lib.hid O7, hge, HSE, N7⟩
            case measure => simp only [intOf]; omega
        · have hsm : (k + 1) * 40 ≤ 140737488355328 ∧ k + 1 ≤ maxLen := by unfold maxLen; omega
          have HBX3 := Lib.hid hbx
          have HO3 := Lib.hid (ho.out.nw hnw2)
          have HSZ := Lib.hid (Nat.le_trans hnw.size hnw2.size)
          have hq6 : q ≤ 6 := by omega
          have HGD := Lib.hid (show ∀ g ∈ gs ++ [⟨0, 0, A3, q, c3, es⟩], GoodE g.es ∧ g.n ≤ 6 from fun g hg => by
            rcases List.mem_append.1 hg with hg | hg
            · exact hgd.out g hg
            · rw [List.mem_singleton] at hg; subst hg; exact ⟨hge.out, hq6⟩)
          have HW2 := Lib.hid hway2
          have hcl := hbx
          clear hbx hbs hway2 hcl
          rcases (show xn ≤ j ∨ (j < xn ∧ 6 ≤ j) by have := HW2.out; omega) with h8 | ⟨h8, h9⟩
          · have h8z : ¬ (j : Int) < (xn : Int) := by omega
            go_wp2_with (first
              | (at_builtin; (with_reducible refine wpList_appN_own T28 _ _ (by with_unfolding_all exact rfl) (by with_unfolding_all exact rfl) (by with_unfolding_all exact rfl) (by with_unfolding_all exact rfl) HO3.out (by with_unfolding_all exact rfl) (gc_one1 _ _ _ _ _) hsm HSZ.out ?_); intro A4 c4 w3 r2 r3 r4)
              | ((with_reducible refine wpList_load_obj 37 _ (by with_unfolding_all exact rfl) (by with_unfolding_all exact rfl) (by with_unfolding_all exact rfl) HBX3.out _ Try.underlying37 (by with_unfolding_all exact rfl) (by kernel_rfl) ?_)))
            go_roundw
            case rel =>
              refine ⟨k + 1, A4, c4, gs ++ [⟨0, 0, A3, q, c3, es⟩], by go_num, rfl, by omega, by omega, Lib.hid (by rw [fl_app, fl_one']; exact r2), Lib.hid ?_, HGD, nw_of_gb (gb_trans hnw hnw2) r3 (fun g hg => ho.out.blk g hg)⟩
              exact GsO.kept (GsO.snoc (b0 := y) (hgo.out.nw hnw2) (fun x hx z hz => by rw [← HY.out]; exact hgo.out.lt x hx z hz) how.out (by rw [← HY.out]; exact hnw.size)) r3 (fun x hx => HO3.out.rowObj x hx)
            case measure => simp only [intOf]; omega
          · have h8z : (j : Int) < (xn : Int) := by omega
            have h9z : decide ((j : Int) < 6) = false := decide_eq_false (by omega)
            go_wp2_with (first
              | (at_builtin; (with_reducible refine wpList_appN_own T28 _ _ (by with_unfolding_all exact rfl) (by with_unfolding_all exact rfl) (by with_unfolding_all exact rfl) (by with_unfolding_all exact rfl) HO3.out (by with_unfolding_all exact rfl) (gc_one1 _ _ _ _ _) hsm HSZ.out ?_); intro A4 c4 w3 r2 r3 r4)
              | ((with_reducible refine wpList_load_obj 37 _ (by with_unfolding_all exact rfl) (by with_unfolding_all exact rfl) (by with_unfolding_all exact rfl) HBX3.out _ Try.underlying37 (by with_unfolding_all exact rfl) (by kernel_rfl) ?_)))
            go_roundw
            case rel =>
              refine ⟨k + 1, A4, c4, gs ++ [⟨0, 0, A3, q, c3, es⟩], by go_num, rfl, by omega, by omega, Lib.hid (by rw [fl_app, fl_one']; exact r2), Lib.hid ?_, HGD, nw_of_gb (gb_trans hnw hnw2) r3 (fun g hg => ho.out.blk g hg)⟩
              exact GsO.kept (GsO.snoc (b0 := y) (hgo.out.nw hnw2) (fun x hx z hz => by rw [← HY.out]; exact hgo.out.lt x hx z hz) how.out (by rw [← HY.out]; exact hnw.size)) r3 (fun x hx => HO3.out.rowObj x hx)
            case measure => simp only [intOf]; omega
    · have HW := Lib.hid hway
      clear hway
      rcases (show n0 ≤ k ∨ (k < n0 ∧ 16 ≤ k) by have := HW.out; omega) with h8 | ⟨h8, h9⟩
      · have h8z : ¬ (k : Int) < (n0 : Int) := by omega
        have HGR := Lib.hid (show GsR wa wa.heap.size A' k gs from hgo.out.gsr ho.out (fun g hg => by have := (hgd.out g hg).2; omega))
        have HGE := Lib.hid (show ∀ g ∈ gs, GoodE g.es from fun g hg => (hgd.out g hg).1)
        have HKL := Lib.hid HGR.out.len
        have HSP := Lib.hid (spare_any (c2 := c') HGR.out (Nat.le_refl _) (by omega) 6)
        unfold SparePost at HSP
        clear ho hgo hgd
        go_upto_region 17 with ((with_reducible refine HSP.out.mono ?_); rintro e w5 ⟨v, rfl, hv, _, m5⟩)
        have hv16 : v ≤ 16 := by
          rcases hv.is with h | ⟨d, _, _, h⟩
          · omega
          · rw [cnt_needs gs HGE.out] at h
            have h1 : (needs gs d).length ≤ gs.length := List.length_filter_le _ _
            have h2 := HKL.out
            omega
        have HV := Lib.hid hv
        obtain ⟨kk, hkk, hkl⟩ : ∃ kk : Nat, (at' % 65536).tmod ((v : Int) + 1) = (kk : Int) ∧ kk ≤ v := by
          have h1 : 0 ≤ at' % 65536 := Int.emod_nonneg _ (by decide)
          refine ⟨((at' % 65536) % ((v : Int) + 1)).toNat, ?_, ?_⟩
          · rw [Int.tmod_eq_emod_of_nonneg h1, Int.toNat_of_nonneg (Int.emod_nonneg _ (by omega))]
          · have h2 := Int.emod_lt_of_pos (at' % 65536) (show (0 : Int) < (v : Int) + 1 by omega)
            have h3 := Int.emod_nonneg (at' % 65536) (show (v : Int) + 1 ≠ 0 by omega)
            omega
        have ea : bits .and .i64 at' 65535 = at' % 65536 := and_mask at' 16 (by decide)
        have hv1 : ¬ (v : Int) + 1 = 0 := by omega
        clear hv
        go_upto_region 20 with fail
        have HGR5 := Lib.hid (HGR.out.nw m5 (Nat.le_refl _))
        have HB5 := Lib.hid m5.size
        have r1 : Rd (w5.alloc (.cells #[.int .i64 0, .int .i64 0, .int .i64 0, .int .i64 0, .int .i64 0, .int .i64 0, .int .i64 (kk : Int), .int .i64 ((v : Int) - (kk : Int))] 3)) (w5.heap.size + 1) 1 (some ⟨w5.heap.size, 0, none⟩) 8 ((two8 (kk : Int) ((v : Int) - (kk : Int))).map iv) := rd_lit ((two8 (kk : Int) ((v : Int) - (kk : Int))).map iv) 3 8 rfl
        have hn1 := World.grownBy_alloc w5 (.cells #[.int .i64 0, .int .i64 0, .int .i64 0, .int .i64 0, .int .i64 0, .int .i64 0, .int .i64 (kk : Int), .int .i64 ((v : Int) - (kk : Int))] 3) none
        have hs1 : (w5.alloc (.cells #[.int .i64 0, .int .i64 0, .int .i64 0, .int .i64 0, .int .i64 0, .int .i64 0, .int .i64 (kk : Int), .int .i64 ((v : Int) - (kk : Int))] 3)).heap.size = w5.heap.size + 1 := by simp
        obtain ⟨w6, hw6⟩ : ∃ w6, w5.alloc (.cells #[.int .i64 0, .int .i64 0, .int .i64 0, .int .i64 0, .int .i64 0, .int .i64 0, .int .i64 (kk : Int), .int .i64 ((v : Int) - (kk : Int))] 3) = w6 := ⟨_, rfl⟩
        rw [hw6] at r1 hn1 hs1 ⊢
        have r2 : Rd (w6.alloc (.cells #[.int .i64 0, .int .i64 0, .int .i64 0, .int .i64 0, .int .i64 0, .int .i64 0, .int .i64 (kk : Int), .int .i64 ((v : Int) - (kk : Int) - 1)] 3)) (w6.heap.size + 1) 1 (some ⟨w6.heap.size, 0, none⟩) 8 ((two8 (kk : Int) ((v : Int) - (kk : Int) - 1)).map iv) := rd_lit ((two8 (kk : Int) ((v : Int) - (kk : Int) - 1)).map iv) 3 8 rfl
        have hn2 := World.grownBy_alloc w6 (.cells #[.int .i64 0, .int .i64 0, .int .i64 0, .int .i64 0, .int .i64 0, .int .i64 0, .int .i64 (kk : Int), .int .i64 ((v : Int) - (kk : Int) - 1)] 3) none
        obtain ⟨w7, hw7⟩ : ∃ w7, w6.alloc (.cells #[.int .i64 0, .int .i64 0, .int .i64 0, .int .i64 0, .int .i64 0, .int .i64 0, .int .i64 (kk : Int), .int .i64 ((v : Int) - (kk : Int) - 1)] 3) = w7 := ⟨_, rfl⟩
        rw [hs1] at r2
        rw [hw7]
        rw [hw7] at r2 hn2
        have hs7 : w7.heap.size = w5.heap.size + 2 := by rw [← hw7]; simp [hs1]
        have R1 := Lib.hid ((r1.nw hn2 (by omega)).more (show w5.heap.size + 1 ≤ w7.heap.size by omega))
        have R2 := Lib.hid (r2.more (show w5.heap.size + 1 + 1 ≤ w7.heap.size by omega))
        have N57 := Lib.hid (gb_trans hn1 hn2)
        have G7 := Lib.hid ((HGR5.out.nw N57.out HB5.out).more (show wa.heap.size ≤ w7.heap.size from Nat.le_trans HB5.out N57.out.size))
        have N7 := Lib.hid (gb_trans hnw (gb_trans m5 N57.out))
        obtain ⟨z, hz⟩ : ∃ z, w5.heap.size = z := ⟨_, rfl⟩
        rw [hz] at R1 R2 ⊢
        have HCS := Lib.hid (show ∀ (d : Nat) w', d < 6 → Nw w7 w' → Calls Try.prog 19 #[.slice A' k c', .slice (some ⟨z, 0, none⟩) 8 8, .int .i64 (d : Int)] w' (fun e w'' => e = .returned (.bool true) ∧ Nw w' w'') from fun d w' hd hw => by
          obtain ⟨b, hb⟩ : ∃ b : Nat, (v : Int) - (kk : Int) = (b : Int) := ⟨v - kk, by omega⟩
          have hr := R1.out
          rw [hb] at hr
          exact (safe_any ((G7.out.nw hw (Nat.le_refl _)).more hw.size) ((hr.nw hw (Nat.le_refl _)).more hw.size) (Nat.le_refl _) (by omega) (by omega) (fun r hr' => by simp [two8] at hr'; omega) (d : Int)).mono fun e w'' h => safe_true h (spares_safe HGE.out HV.out (by omega) (by omega) (by omega)))
        have HCL := Lib.hid (show ∀ (d : Nat) w', Nw w7 w' → Calls Try.prog 19 #[.slice A' k c', .slice (some ⟨z + 1, 0, none⟩) 8 8, .int .i64 (d : Int)] w' (Ret (.bool (hallB gs (two8 (kk : Int) ((v : Int) - (kk : Int) - 1)) (d : Int))) w') from fun d w' hw =>
          safe_hall ((G7.out.nw hw (Nat.le_refl _)).more hw.size) ((R2.out.nw hw (Nat.le_refl _)).more hw.size) (Nat.le_refl _) (by omega) (by omega) (fun r hr' => by simp [two8] at hr'; omega) (d : Int))
        have HSH := Lib.hid (show ∀ d : Nat, kk < v → cntE (allE gs) (d : Int) = v → hallB gs (two8 (kk : Int) ((v : Int) - (kk : Int) - 1)) (d : Int) = false from fun d h1 h2 => by
          obtain ⟨b, hb⟩ : ∃ b : Nat, (v : Int) - (kk : Int) - 1 = (b : Int) := ⟨v - kk - 1, by omega⟩
          rw [hb]
          exact spares_short HGE.out h2 (by omega))
        clear r1 r2 hn1 hn2 hs1 hw6 hw7 hs7 hz m5
        unfold Ret at HCL
        go_wp2_with fail
        go_loopw [16, 17] (fun f v' wr => ∃ (d : Nat) (q : Bool), v' = .int .i64 d ∧ f = .bool q ∧ d ≤ 6 ∧ Hid (kk < v → ∀ d' : Nat, d' < d → cntE (allE gs) (d' : Int) = v → q = true) ∧ Nw w7 wr) (fun _ v' _ => 6 - (intOf v').toNat)
        case atStart => exact ⟨0, false, rfl, rfl, by omega, Lib.hid (fun _ d' h => absurd h (by omega)), Nw.refl _⟩
        case round =>
          obtain ⟨d, q, rfl, rfl, hd, hq, hnw8⟩ := hrel
          by_cases hd6 : d < 6
          · have hdz : (d : Int) < 6 := by omega
            have HS1 := Lib.hid (HCS.out d wr hd6 hnw8)
            rcases (show kk = v ∨ kk < v by omega) with hkv | hkv
            · have hkz : decide (kk < v) = false := decide_eq_false (by omega)
              have HQ := Lib.hid (show kk < v → ∀ d' : Nat, d' < d + 1 → cntE (allE gs) (d' : Int) = v → q = true from fun h => absurd h (by omega))
              clear hkv hq
              go_wp2_with ((with_reducible refine HS1.out.mono ?_); rintro e w8 ⟨rfl, m8⟩)
              go_roundw
              case rel => exact ⟨d + 1, q, by go_num, rfl, by omega, HQ, gb_trans hnw8 m8⟩
              case measure => simp only [intOf]; omega
            · have hkz : decide (kk < v) = true := decide_eq_true hkv
              have HS2 := Lib.hid (fun w' (h : Nw w7 w') => HCL.out d w' h)
              obtain ⟨t, ht⟩ : ∃ t, hallB gs (two8 (kk : Int) ((v : Int) - (kk : Int) - 1)) (d : Int) = t := ⟨_, rfl⟩
              rw [ht] at HS2
              have HT := Lib.hid ht
              have HKV := Lib.hid hkv
              clear ht hkv
              rcases t with _ | _
              · have HQ := Lib.hid (show kk < v → ∀ d' : Nat, d' < d + 1 → cntE (allE gs) (d' : Int) = v → true = true from fun _ _ _ _ => rfl)
                clear hq
                go_wp2_with (first
                  | ((with_reducible refine (HS2.out _ (gb_trans hnw8 m8)).mono ?_); rintro e w9 ⟨rfl, m9⟩)
                  | ((with_reducible refine HS1.out.mono ?_); rintro e w8 ⟨rfl, m8⟩))
                go_roundw
                case rel => exact ⟨d + 1, true, by go_num, rfl, by omega, Lib.hid (fun _ _ _ _ => rfl), gb_trans hnw8 (gb_trans m8 m9)⟩
                case measure => simp only [intOf]; omega
              · have HQ := Lib.hid (show kk < v → ∀ d' : Nat, d' < d + 1 → cntE (allE gs) (d' : Int) = v → q = true from fun h d' h1 h2 => by
                  by_cases hdd : d' = d
                  · subst hdd
                    have := HSH.out d' h h2
                    rw [HT.out] at this; cases this
                  · exact hq.out h d' (by omega) h2)
                clear hq
                go_wp2_with (first
                  | ((with_reducible refine (HS2.out _ (gb_trans hnw8 m8)).mono ?_); rintro e w9 ⟨rfl, m9⟩)
                  | ((with_reducible refine HS1.out.mono ?_); rintro e w8 ⟨rfl, m8⟩))
                go_roundw
                case rel => exact ⟨d + 1, q, by go_num, rfl, by omega, HQ, gb_trans hnw8 (gb_trans m8 m9)⟩
                case measure => simp only [intOf]; omega
          · have hd6' : ¬ (d : Int) < 6 := by omega
            have hd66 : d = 6 := by omega
            have HQ := Lib.hid (show kk < v → 0 < v → q = true from fun h h0 => by
              rcases HV.out.is with h1 | ⟨d0, e0, e1, e2⟩
              · omega
              · obtain ⟨d', rfl⟩ := Int.eq_ofNat_of_zero_le e0
                exact hq.out h d' (by omega) e2)
            clear hq hd66
            rcases (show v = 0 ∨ (0 < v ∧ kk = v) ∨ (0 < v ∧ kk < v) by omega) with h | ⟨h, h'⟩ | ⟨h, h'⟩
            · have hb1 : ((v : Int) == 0) = true := by simpa using h
              clear h
              go_wp2
              go_ret
              exact ⟨rfl, gb_trans N7.out hnw8⟩
            · have hb1 : ((v : Int) == 0) = false := by rw [beq_eq_false_iff_ne]; omega
              have hb2 : ((kk : Int) == (v : Int)) = true := by rw [beq_iff_eq]; omega
              clear h h'
              go_wp2
              go_ret
              exact ⟨rfl, gb_trans N7.out hnw8⟩
            · have hb1 : ((v : Int) == 0) = false := by rw [beq_eq_false_iff_ne]; omega
              have hb2 : ((kk : Int) == (v : Int)) = false := by rw [beq_eq_false_iff_ne]; omega
              have hqt := HQ.out h' h
              subst hqt
              clear h h'
              go_wp2
              go_ret
              exact ⟨rfl, gb_trans N7.out hnw8⟩
      · have h8z : (k : Int) < (n0 : Int) := by omega
        have h9z : decide ((k : Int) < 16) = false := decide_eq_false (by omega)
        have HGR := Lib.hid (show GsR wa wa.heap.size A' k gs from hgo.out.gsr ho.out (fun g hg => by have := (hgd.out g hg).2; omega))
        have HGE := Lib.hid (show ∀ g ∈ gs, GoodE g.es from fun g hg => (hgd.out g hg).1)
        have HKL := Lib.hid HGR.out.len
        have HSP := Lib.hid (spare_any (c2 := c') HGR.out (Nat.le_refl _) (by omega) 6)
        unfold SparePost at HSP
        clear ho hgo hgd
        go_upto_region 17 with ((with_reducible refine HSP.out.mono ?_); rintro e w5 ⟨v, rfl, hv, _, m5⟩)
        have hv16 : v ≤ 16 := by
          rcases hv.is with h | ⟨d, _, _, h⟩
          · omega
          · rw [cnt_needs gs HGE.out] at h
            have h1 : (needs gs d).length ≤ gs.length := List.length_filter_le _ _
            have h2 := HKL.out
            omega
        have HV := Lib.hid hv
        obtain ⟨kk, hkk, hkl⟩ : ∃ kk : Nat, (at' % 65536).tmod ((v : Int) + 1) = (kk : Int) ∧ kk ≤ v := by
          have h1 : 0 ≤ at' % 65536 := Int.emod_nonneg _ (by decide)
          refine ⟨((at' % 65536) % ((v : Int) + 1)).toNat, ?_, ?_⟩
          · rw [Int.tmod_eq_emod_of_nonneg h1, Int.toNat_of_nonneg (Int.emod_nonneg _ (by omega))]
          · have h2 := Int.emod_lt_of_pos (at' % 65536) (show (0 : Int) < (v : Int) + 1 by omega)
            have h3 := Int.emod_nonneg (at' % 65536) (show (v : Int) + 1 ≠ 0 by omega)
            omega
        have ea : bits .and .i64 at' 65535 = at' % 65536 := and_mask at' 16 (by decide)
        have hv1 : ¬ (v : Int) + 1 = 0 := by omega
        clear hv
        go_upto_region 20 with fail
        have HGR5 := Lib.hid (HGR.out.nw m5 (Nat.le_refl _))
        have HB5 := Lib.hid m5.size
        have r1 : Rd (w5.alloc (.cells #[.int .i64 0, .int .i64 0, .int .i64 0, .int .i64 0, .int .i64 0, .int .i64 0, .int .i64 (kk : Int), .int .i64 ((v : Int) - (kk : Int))] 3)) (w5.heap.size + 1) 1 (some ⟨w5.heap.size, 0, none⟩) 8 ((two8 (kk : Int) ((v : Int) - (kk : Int))).map iv) := rd_lit ((two8 (kk : Int) ((v : Int) - (kk : Int))).map iv) 3 8 rfl
        have hn1 := World.grownBy_alloc w5 (.cells #[.int .i64 0, .int .i64 0, .int .i64 0, .int .i64 0, .int .i64 0, .int .i64 0, .int .i64 (kk : Int), .int .i64 ((v : Int) - (kk : Int))] 3) none
        have hs1 : (w5.alloc (.cells #[.int .i64 0, .int .i64 0, .int .i64 0, .int .i64 0, .int .i64 0, .int .i64 0, .int .i64 (kk : Int), .int .i64 ((v : Int) - (kk : Int))] 3)).heap.size = w5.heap.size + 1 := by simp
        obtain ⟨w6, hw6⟩ : ∃ w6, w5.alloc (.cells #[.int .i64 0, .int .i64 0, .int .i64 0, .int .i64 0, .int .i64 0, .int .i64 0, .int .i64 (kk : Int), .int .i64 ((v : Int) - (kk : Int))] 3) = w6 := ⟨_, rfl⟩
        rw [hw6] at r1 hn1 hs1 ⊢
        have r2 : Rd (w6.alloc (.cells #[.int .i64 0, .int .i64 0, .int .i64 0, .int .i64 0, .int .i64 0, .int .i64 0, .int .i64 (kk : Int), .int .i64 ((v : Int) - (kk : Int) - 1)] 3)) (w6.heap.size + 1) 1 (some ⟨w6.heap.size, 0, none⟩) 8 ((two8 (kk : Int) ((v : Int) - (kk : Int) - 1)).map iv) := rd_lit ((two8 (kk : Int) ((v : Int) - (kk : Int) - 1)).map iv) 3 8 rfl
        have hn2 := World.grownBy_alloc w6 (.cells #[.int .i64 0, .int .i64 0, .int .i64 0, .int .i64 0, .int .i64 0, .int .i64 0, .int .i64 (kk : Int), .int .i64 ((v : Int) - (kk : Int) - 1)] 3) none
        obtain ⟨w7, hw7⟩ : ∃ w7, w6.alloc (.cells #[.int .i64 0, .int .i64 0, .int .i64 0, .int .i64 0, .int .i64 0, .int .i64 0, .int .i64 (kk : Int), .int .i64 ((v : Int) - (kk : Int) - 1)] 3) = w7 := ⟨_, rfl⟩
        rw [hs1] at r2
        rw [hw7]
        rw [hw7] at r2 hn2
        have hs7 : w7.heap.size = w5.heap.size + 2 := by rw [← hw7]; simp [hs1]
        have R1 := Lib.hid ((r1.nw hn2 (by omega)).more (show w5.heap.size + 1 ≤ w7.heap.size by omega))
        have R2 := Lib.hid (r2.more (show w5.heap.size + 1 + 1 ≤ w7.heap.size by omega))
        have N57 := Lib.hid (gb_trans hn1 hn2)
        have G7 := Lib.hid ((HGR5.out.nw N57.out HB5.out).more (show wa.heap.size ≤ w7.heap.size from Nat.le_trans HB5.out N57.out.size))
        have N7 := Lib.hid (gb_trans hnw (gb_trans m5 N57.out))
        obtain ⟨z, hz⟩ : ∃ z, w5.heap.size = z := ⟨_, rfl⟩
        rw [hz] at R1 R2 ⊢
        have HCS := Lib.hid (show ∀ (d : Nat) w', d < 6 → Nw w7 w' → Calls Try.prog 19 #[.slice A' k c', .slice (some ⟨z, 0, none⟩) 8 8, .int .i64 (d : Int)] w' (fun e w'' => e = .returned (.bool true) ∧ Nw w' w'') from fun d w' hd hw => by
          obtain ⟨b, hb⟩ : ∃ b : Nat, (v : Int) - (kk : Int) = (b : Int) := ⟨v - kk, by omega⟩
          have hr := R1.out
          rw [hb] at hr
          exact (safe_any ((G7.out.nw hw (Nat.le_refl _)).more hw.size) ((hr.nw hw (Nat.le_refl _)).more hw.size) (Nat.le_refl _) (by omega) (by omega) (fun r hr' => by simp [two8] at hr'; omega) (d : Int)).mono fun e w'' h => safe_true h (spares_safe HGE.out HV.out (by omega) (by omega) (by omega)))
        have HCL := Lib.hid (show ∀ (d : Nat) w', Nw w7 w' → Calls Try.prog 19 #[.slice A' k c', .slice (some ⟨z + 1, 0, none⟩) 8 8, .int .i64 (d : Int)] w' (Ret (.bool (hallB gs (two8 (kk : Int) ((v : Int) - (kk : Int) - 1)) (d : Int))) w') from fun d w' hw =>
          safe_hall ((G7.out.nw hw (Nat.le_refl _)).more hw.size) ((R2.out.nw hw (Nat.le_refl _)).more hw.size) (Nat.le_refl _) (by omega) (by omega) (fun r hr' => by simp [two8] at hr'; omega) (d : Int))
        have HSH := Lib.hid (show ∀ d : Nat, kk < v → cntE (allE gs) (d : Int) = v → hallB gs (two8 (kk : Int) ((v : Int) - (kk : Int) - 1)) (d : Int) = false from fun d h1 h2 => by
          obtain ⟨b, hb⟩ : ∃ b : Nat, (v : Int) - (kk : Int) - 1 = (b : Int) := ⟨v - kk - 1, by omega⟩
          rw [hb]
          exact spares_short HGE.out h2 (by omega))
        clear r1 r2 hn1 hn2 hs1 hw6 hw7 hs7 hz m5
        unfold Ret at HCL
        go_wp2_with fail
        go_loopw [16, 17] (fun f v' wr => ∃ (d : Nat) (q : Bool), v' = .int .i64 d ∧ f = .bool q ∧ d ≤ 6 ∧ Hid (kk < v → ∀ d' : Nat, d' < d → cntE (allE gs) (d' : Int) = v → q = true) ∧ Nw w7 wr) (fun _ v' _ => 6 - (intOf v').toNat)
        case atStart => exact ⟨0, false, rfl, rfl, by omega, Lib.hid (fun _ d' h => absurd h (by omega)), Nw.refl _⟩
        case round =>
          obtain ⟨d, q, rfl, rfl, hd, hq, hnw8⟩ := hrel
          by_cases hd6 : d < 6
          · have hdz : (d : Int) < 6 := by omega
            have HS1 := Lib.hid (HCS.out d wr hd6 hnw8)
            rcases (show kk = v ∨ kk < v by omega) with hkv | hkv
            · have hkz : decide (kk < v) = false := decide_eq_false (by omega)
              have HQ := Lib.hid (show kk < v → ∀ d' : Nat, d' < d + 1 → cntE (allE gs) (d' : Int) = v → q = true from fun h => absurd h (by omega))
              clear hkv hq
              go_wp2_with ((with_reducible refine HS1.out.mono ?_); rintro e w8 ⟨rfl, m8⟩)
              go_roundw
              case rel => exact ⟨d + 1, q, by go_num, rfl, by omega, HQ, gb_trans hnw8 m8⟩
              case measure => simp only [intOf]; omega
            · have hkz : decide (kk < v) = true := decide_eq_true hkv
              have HS2 := Lib.hid (fun w' (h : Nw w7 w') => HCL.out d w' h)
              obtain ⟨t, ht⟩ : ∃ t, hallB gs (two8 (kk : Int) ((v : Int) - (kk : Int) - 1)) (d : Int) = t := ⟨_, rfl⟩
              rw [ht] at HS2
              have HT := Lib.hid ht
              have HKV := Lib.hid hkv
              clear ht hkv
              rcases t with _ | _
              · have HQ := Lib.hid (show kk < v → ∀ d' : Nat, d' < d + 1 → cntE (allE gs) (d' : Int) = v → true = true from fun _ _ _ _ => rfl)
                clear hq
                go_wp2_with (first
                  | ((with_reducible refine (HS2.out _ (gb_trans hnw8 m8)).mono ?_); rintro e w9 ⟨rfl, m9⟩)
                  | ((with_reducible refine HS1.out.mono ?_); rintro e w8 ⟨rfl, m8⟩))
                go_roundw
                case rel => exact ⟨d + 1, true, by go_num, rfl, by omega, Lib.hid (fun _ _ _ _ => rfl), gb_trans hnw8 (gb_trans m8 m9)⟩
                case measure => simp only [intOf]; omega
              · have HQ := Lib.hid (show kk < v → ∀ d' : Nat, d' < d + 1 → cntE (allE gs) (d' : Int) = v → q = true from fun h d' h1 h2 => by
                  by_cases hdd : d' = d
                  · subst hdd
                    have := HSH.out d' h h2
                    rw [HT.out] at this; cases this
                  · exact hq.out h d' (by omega) h2)
                clear hq
                go_wp2_with (first
                  | ((with_reducible refine (HS2.out _ (gb_trans hnw8 m8)).mono ?_); rintro e w9 ⟨rfl, m9⟩)
                  | ((with_reducible refine HS1.out.mono ?_); rintro e w8 ⟨rfl, m8⟩))
                go_roundw
                case rel => exact ⟨d + 1, q, by go_num, rfl, by omega, HQ, gb_trans hnw8 (gb_trans m8 m9)⟩
                case measure => simp only [intOf]; omega
          · have hd6' : ¬ (d : Int) < 6 := by omega
            have hd66 : d = 6 := by omega
            have HQ := Lib.hid (show kk < v → 0 < v → q = true from fun h h0 => by
              rcases HV.out.is with h1 | ⟨d0, e0, e1, e2⟩
              · omega
              · obtain ⟨d', rfl⟩ := Int.eq_ofNat_of_zero_le e0
                exact hq.out h d' (by omega) e2)
            clear hq hd66
            rcases (show v = 0 ∨ (0 < v ∧ kk = v) ∨ (0 < v ∧ kk < v) by omega) with h | ⟨h, h'⟩ | ⟨h, h'⟩
            · have hb1 : ((v : Int) == 0) = true := by simpa using h
              clear h
              go_wp2
              go_ret
              exact ⟨rfl, gb_trans N7.out hnw8⟩
            · have hb1 : ((v : Int) == 0) = false := by rw [beq_eq_false_iff_ne]; omega
              have hb2 : ((kk : Int) == (v : Int)) = true := by rw [beq_iff_eq]; omega
              clear h h'
              go_wp2
              go_ret
              exact ⟨rfl, gb_trans N7.out hnw8⟩
            · have hb1 : ((v : Int) == 0) = false := by rw [beq_eq_false_iff_ne]; omega
              have hb2 : ((kk : Int) == (v : Int)) = false := by rw [beq_eq_false_iff_ne]; omega
              have hqt := HQ.out h' h
              subst hqt
              clear h h'
              go_wp2
              go_ret
              exact ⟨rfl, gb_trans N7.out hnw8⟩
end Go.Proofs.Ytobifmndpkjlmaa

