/- The library's symMerge, walked. -/
import Derived.Test.YtobifmndpkjlmaaJP
set_option linter.unusedVariables false
set_option linter.unusedSimpArgs false
namespace Go.Proofs.Ytobifmndpkjlmaa
open Go.RowKit Go.BW

set_option maxRecDepth 100000 in
set_option maxHeartbeats 16000000 in
theorem symm_any (fuel : Nat) : SymmAt fuel := by
  induction fuel with
  | zero => intro w base g y n c N cR a m b AR rs U X Y Z _ _ _ _ _ _ _ _ _ _ _ _ h; omega
  | succ fuel ih =>
    intro w base g y n c N cR a m b AR rs U X Y Z ho hc hn hN hX hY hxy ha hm hb ham hmb hfu
    have hlen : (U ++ (X ++ (Y ++ Z))).length = n := by have := ho.len; simpa using this
    simp only [List.length_append] at hlen
    have hbn : b ≤ n := by omega
    have HO := Lib.hid ho; have HC := Lib.hid hc; have HN := Lib.hid hN; have HX := Lib.hid hX; have HY := Lib.hid hY; have HXY := Lib.hid hxy; have HA := Lib.hid ha; have HM := Lib.hid hm; have HB := Lib.hid hb
    have IH := Lib.hid ih
    have hglt : g < w.heap.size := by obtain ⟨cur, h⟩ := ho.obj; exact h.lt
    have HG := Lib.hid hglt
    clear ho hc hN hX hY hxy ha hm hb ih hlen hglt
    by_cases hX1 : m - a = 1
    · -- one of the first row goes into the second
      have hz1 : ((m : Int) - (a : Int) == 1) = true := by rw [beq_iff_eq]; omega
      obtain ⟨x, hx⟩ : ∃ x, X = [x] := by
        have : X.length = 1 := by have := HM.out; omega
        exact List.length_eq_one_iff.1 this
      subst hx
      have HYL := Lib.hid (show Y.length = b - m from by have := HB.out; omega)
      have HXA := Lib.hid (show (U ++ ([x] ++ (Y ++ Z)))[a]? = some x from by rw [HA.out, List.getElem?_append_right (Nat.le_refl _), Nat.sub_self]; rfl)
      have HYA := Lib.hid (show ∀ p, (hp : p < Y.length) → (U ++ ([x] ++ (Y ++ Z)))[m + p]? = some Y[p] from fun p hp => by
        have h1 := HM.out; have h2 := HA.out
        rw [List.getElem?_append_right (by simp at h1; omega), List.getElem?_append_right (by simp at h1 ⊢; omega), List.getElem?_append_left (by simp at h1 ⊢; omega)]
        have : m + p - U.length - [x].length = p := by simp at h1 ⊢; omega
        rw [this, List.getElem?_eq_getElem hp])
      clear hX1
      go_enter Try.func51, Try.ntmps51
      go_wp2_with fail
      go_loopw [10, 11] (fun u v wr => ∃ i j : Nat, u = .int .i64 i ∧ v = .int .i64 j ∧ m ≤ i ∧ i ≤ j ∧ j ≤ b ∧ Hid (∀ p, (hp : p < Y.length) → m + p < i → rs.getD x 0 < rs.getD Y[p] 0) ∧ Hid (∀ p, (hp : p < Y.length) → j ≤ m + p → rs.getD Y[p] 0 ≤ rs.getD x 0) ∧
        Hid (Own wr base 3 1 (some ⟨g, 0, none⟩) n c ((U ++ ([x] ++ (Y ++ Z))).map nv)) ∧ Hid (Cmp wr g y AR N cR rs) ∧ Hid (w.grownBy wr (some g))) (fun u v _ => (intOf v).toNat - (intOf u).toNat)
      case atStart => exact ⟨m, b, rfl, rfl, Nat.le_refl _, Nat.le_of_lt hmb, Nat.le_refl _, Lib.hid (fun p hp h => absurd h (by omega)), Lib.hid (fun p hp h => absurd hp (by have := HYL.out; omega)), HO, HC, Lib.hid (gb_nw (Nw.refl _))⟩
      case round =>
        obtain ⟨i, j, rfl, rfl, hmi, hij, hjb, hlo, hhi, hor, hcr, hgr⟩ := hrel
        by_cases hlt : i < j
        · have hltz : (i : Int) < (j : Int) := by omega
          obtain ⟨h, hh⟩ : ∃ h, h = (i + j) / 2 := ⟨_, rfl⟩
          have hhi1 : i ≤ h ∧ h < j := by omega
          obtain ⟨p, hp⟩ : ∃ p, h = m + p := ⟨h - m, by omega⟩
          have hpl : p < Y.length := by have := HYL.out; omega
          obtain ⟨z, hz⟩ : ∃ z, Y[p] = z := ⟨_, rfl⟩
          have cz := dcell hor.out (HYA.out p hpl)
          rw [hz, ← hp] at cz
          have cx := dcell hor.out HXA.out
          have hc1 := cz.1; have hc2 := cx.1
          have hhn : h < n := cz.2.2
          have hhz : (h : Int) < (n : Int) := by omega
          have han : (a : Int) < (n : Int) := by have := cx.2.2; omega
          have hzN : z < N := HN.out z (by rw [← hz]; exact List.mem_append_right _ (List.getElem_mem _))
          have hxN : x < N := HN.out x (by simp)
          have HB40 := Lib.hid (cmp_call hcr.out hzN hxN)
          have hneg := cmpf_neg (x := rs.getD x 0) (y := rs.getD z 0)
          obtain ⟨r, hr⟩ : ∃ r, cmpf (rs.getD x 0) (rs.getD z 0) = r := ⟨_, rfl⟩
          rw [hr] at HB40 hneg
          have HZ := Lib.hid hz; have HH := Lib.hid hh; have HP := Lib.hid hp
          have eh : ((i : Int) + (j : Int)) / 2 = (h : Int) := by omega
          have HPL := Lib.hid hpl
          clear hr hz hh hp cz cx
          by_cases hless : rs.getD x 0 < rs.getD z 0
          · rw [decide_eq_true hless] at hneg
            have HL2 := Lib.hid (show ∀ q, (hq : q < Y.length) → m + q < h + 1 → rs.getD x 0 < rs.getD Y[q] 0 from fun q hq hqh => by
              have := fall_at HY.out hq HPL.out (by have := HP.out; omega)
              rw [HZ.out] at this; omega)
            clear hless
            go_wp2_with fail
            go_quiet (exact Calls.quiet_of (HB40.out _))
            go_wp2
            go_roundw
            case rel => exact ⟨h + 1, j, by go_num, rfl, by omega, by omega, hjb, HL2, hhi, Lib.hid (hor.out.drewN nq), Lib.hid (hcr.out.drewN nq), Lib.hid (gb_drewN hgr.out nq)⟩
            case measure => simp only [intOf]; omega
          · rw [decide_eq_false hless] at hneg
            have HL2 := Lib.hid (show ∀ q, (hq : q < Y.length) → h ≤ m + q → rs.getD Y[q] 0 ≤ rs.getD x 0 from fun q hq hqh => by
              have := fall_at HY.out HPL.out hq (by have := HP.out; omega)
              rw [HZ.out] at this; omega)
            clear hless
            go_wp2_with fail
            go_quiet (exact Calls.quiet_of (HB40.out _))
            go_wp2
            go_roundw
            case rel => exact ⟨i, h, rfl, by go_num, by omega, by omega, by omega, hlo, HL2, Lib.hid (hor.out.drewN nq), Lib.hid (hcr.out.drewN nq), Lib.hid (gb_drewN hgr.out nq)⟩
            case measure => simp only [intOf]; omega
        · have hij2 : i = j := by omega
          obtain ⟨s, hs⟩ : ∃ s, i = m + s := ⟨i - m, by omega⟩
          have hsY : s ≤ Y.length := by have := HYL.out; omega
          have HS := Lib.hid hs
          have HYD := Lib.hid (show Y = Y.take s ++ Y.drop s from (List.take_append_drop s Y).symm)
          have HMS := Lib.hid (show (Y.take s ++ x :: Y.drop s).Pairwise (bef rs) from by
            refine put_left (by rw [← HYD.out]; exact HY.out) (fun z hz => ?_) (fun z hz => ?_) (fun z hz => HXY.out x (by simp) z (by rw [← HYD.out] at hz; exact hz))
            · obtain ⟨q, hq, e⟩ := List.mem_take_iff_getElem.1 hz
              rw [← e]
              exact hlo.out q (by omega) (by omega)
            · obtain ⟨q, hq, e⟩ := List.getElem_of_mem hz
              rw [List.getElem_drop] at e
              have := hhi.out (s + q) (by rw [List.length_drop] at hq; omega) (by omega)
              rw [e] at this
              omega)
          have HSY := Lib.hid hsY
          have hia : i = a + 1 + s := by have := HM.out; simp at this; omega
          have e8 : (i : Int) - 1 = ((a + s : Nat) : Int) := by omega
          have HOR := Lib.hid (show Own wr base 3 1 (some ⟨g, 0, none⟩) n c ((U ++ (Y.take 0 ++ x :: (Y.drop 0 ++ Z))).map nv) from by simpa using hor.out)
          have hin : i ≤ b := by omega
          have HIA := Lib.hid hia
          clear hlo hhi hs hor hij2 hia
          go_wp2_with fail
          go_loopw [13] (fun v wr => ∃ k q : Nat, v = .int .i64 k ∧ Hid (k = a + q) ∧ k ≤ b ∧ q ≤ s ∧ Hid (Own wr base 3 1 (some ⟨g, 0, none⟩) n c ((U ++ (Y.take q ++ x :: (Y.drop q ++ Z))).map nv)) ∧ Hid (w.grownBy wr (some g))) (fun v _ => i - (intOf v).toNat)
          case atStart => exact ⟨a, 0, rfl, Lib.hid rfl, by omega, Nat.zero_le _, HOR, hgr⟩
          case round =>
            obtain ⟨k, q, rfl, HKQ, hkb, hqs, hok, hgk⟩ := hrel
            by_cases hlt2 : q < s
            · have hqY : q < Y.length := by omega
              obtain ⟨z, hz⟩ : ∃ z, Y[q] = z := ⟨_, rfl⟩
              have HLS := Lib.hid (show U ++ (Y.take q ++ x :: (Y.drop q ++ Z)) = (U ++ Y.take q) ++ x :: ([] ++ z :: (Y.drop (q + 1) ++ Z)) from by rw [List.drop_eq_getElem_cons hqY, hz]; simp)
              have HLT := Lib.hid (show U ++ (Y.take (q + 1) ++ x :: (Y.drop (q + 1) ++ Z)) = (U ++ Y.take q) ++ z :: ([] ++ x :: (Y.drop (q + 1) ++ Z)) from by rw [List.take_succ_eq_append_getElem hqY, hz]; simp)
              obtain ⟨k2, hk2⟩ : ∃ k2, k2 = k + 1 := ⟨_, rfl⟩
              have HP := Lib.hid (show k = (U ++ Y.take q).length from by rw [List.length_append, List.length_take, ← HA.out]; have := HKQ.out; omega)
              have HK2 := Lib.hid (show k2 = (U ++ Y.take q).length + 1 + ([] : List Nat).length from by rw [hk2, ← HP.out]; rfl)
              have hat := at_two (U ++ Y.take q) [] (Y.drop (q + 1) ++ Z) x z
              rw [← HK2.out, ← HP.out, ← HLS.out] at hat
              have cp := (dcell hok.out hat.1).1
              have cq := (dcell hok.out hat.2).1
              have hpn := (dcell hok.out hat.1).2.2
              have hqn := (dcell hok.out hat.2).2.2
              have hpz : (k : Int) < (n : Int) := by omega
              have hqz : (k2 : Int) < (n : Int) := by omega
              have e1 : IntKind.i64.wrap ((k : Int) + 1) = (k2 : Int) := by rw [IntKind.wrap_i64]; omega
              have hkz : (k : Int) < ((a + s : Nat) : Int) := by have := HKQ.out; omega
              have hkz2 : (k : Int) < (a : Int) + (s : Int) := by have := HKQ.out; omega
              have hks : k < a + s := by have := HKQ.out; omega
              have HK3 := Lib.hid hk2
              clear hat hz hk2
              go_wp2_with fail
              have S3 := Lib.hid (And.intro cp cq)
              clear cp cq
              refine wp_region_U [15] (fun w' => w'.cell? ⟨g, k, none⟩ = some (.int .i64 (x : Int)) ∧ w'.cell? ⟨g, k2, none⟩ = some (.int .i64 (z : Int))) (by kernel_rfl) ?_
              change wpU _ _ _ _ _ _ _ _ _ (World.drew wr)
              refine U_segP (r := [0, 1, 2, 3, 4, 5, 6, 7, 8]) (fuel := 9) rfl (by kernel_rfl) (by kernel_rfl) (by simp only [List.filterMap_cons, List.filterMap_nil, List.getElem?_toArray, List.getElem?_cons_succ, List.getElem?_cons_zero]; rfl) (fun _ _ d _ _ h => by cases d <;> exact h) (until_of S3.out) ?_
              iterate 9 (refine wpYield_step rfl (fun K hK => ?_)
                         apply Exists.intro
                         refine ⟨fun w' hw' => ?_, ?_⟩
                         · (go_simp; try with_reducible rfl)
                         go_simp
                         refine hK _ ?_
                         clear hK K)
              refine wpYield_nil ?_
              refine U_segL (r := [9]) (fuel := 8) rfl (by kernel_rfl) (by kernel_rfl) (by simp only [List.filterMap_cons, List.filterMap_nil, List.getElem?_toArray, List.getElem?_cons_succ, List.getElem?_cons_zero]; rfl) (fun _ _ d _ _ h => by cases d <;> exact h) S3.out ?_
              (refine wpYield_step rfl (fun K hK => ?_)
               apply Exists.intro
               refine ⟨fun w' hw' => ?_, ?_⟩
               · (go_simp; try with_reducible rfl)
               go_simp
               refine hK _ ?_
               clear hK K)
              refine wpYield_nil ?_
              refine U_segP (r := [10, 11, 12]) (fuel := 5) rfl (by kernel_rfl) (by kernel_rfl) (by simp only [List.filterMap_cons, List.filterMap_nil, List.getElem?_toArray, List.getElem?_cons_succ, List.getElem?_cons_zero]; rfl) (fun _ _ d _ _ h => by cases d <;> exact h) (until_of S3.out) ?_
              iterate 3 (refine wpYield_step rfl (fun K hK => ?_)
                         apply Exists.intro
                         refine ⟨fun w' hw' => ?_, ?_⟩
                         · (go_simp; try with_reducible rfl)
                         go_simp
                         refine hK _ ?_
                         clear hK K)
              refine wpYield_nil ?_
              refine U_segL (r := [13]) (fuel := 4) rfl (by kernel_rfl) (by kernel_rfl) (by simp only [List.filterMap_cons, List.filterMap_nil, List.getElem?_toArray, List.getElem?_cons_succ, List.getElem?_cons_zero]; rfl) (fun _ _ d _ _ h => by cases d <;> exact h) S3.out ?_
              (refine wpYield_step rfl (fun K hK => ?_)
               apply Exists.intro
               refine ⟨fun w' hw' => ?_, ?_⟩
               · (go_simp; try with_reducible rfl)
               go_simp
               refine hK _ ?_
               clear hK K)
              refine wpYield_nil ?_
              refine U_segP (r := [14]) (fuel := 3) rfl (by kernel_rfl) (by kernel_rfl) (by simp only [List.filterMap_cons, List.filterMap_nil, List.getElem?_toArray, List.getElem?_cons_succ, List.getElem?_cons_zero]; rfl) (fun _ _ d _ _ h => by cases d <;> exact h) (until_of S3.out) ?_
              (refine wpYield_step rfl (fun K hK => ?_)
               apply Exists.intro
               refine ⟨fun w' hw' => ?_, ?_⟩
               · (go_simp; try with_reducible rfl)
               go_simp
               refine hK _ ?_
               clear hK K)
              refine wpYield_nil ?_
              refine U_eff 15 rfl (by kernel_rfl) rfl (fun K hK => ?_)
              obtain ⟨u0, _, c0, f0⟩ := ((hok.out).drew).cellAt hpn
              go_simp
              refine hK _ _ ⟨until_past (by kernel_rfl), ?_⟩
              clear hK K
              have o4 := ((hok.out).set k (.int .i64 (z : Int))).1.drew
              have g4 := gb_drew (gb_trans (hgk.out) ((hok.out).set k (.int .i64 (z : Int))).2)
              obtain ⟨wc, hwc⟩ : ∃ wc, ((wr).setCell ⟨g, k, none⟩ (.int .i64 (z : Int))).drew = wc := ⟨_, rfl⟩
              rw [hwc] at o4 g4 ⊢
              have O4 := Lib.hid o4; have G4 := Lib.hid g4
              clear hwc f0 c0 o4 g4
              refine U_segP (r := [16]) (fuel := 1) rfl (by kernel_rfl) (by kernel_rfl) (by simp only [List.filterMap_cons, List.filterMap_nil, List.getElem?_toArray, List.getElem?_cons_succ, List.getElem?_cons_zero]; rfl) (fun _ _ d _ _ h => by cases d <;> exact h) (until_past (by kernel_rfl)) ?_
              (refine wpYield_step rfl (fun K hK => ?_)
               apply Exists.intro
               refine ⟨fun w' hw' => ?_, ?_⟩
               · (go_simp; try with_reducible rfl)
               go_simp
               refine hK _ ?_
               clear hK K)
              refine wpYield_nil ?_
              refine U_eff 17 rfl (by kernel_rfl) rfl (fun K hK => ?_)
              obtain ⟨u1, _, c1, f1⟩ := O4.out.cellAt hqn
              go_simp
              refine hK _ _ ⟨until_past (by kernel_rfl), ?_⟩
              clear hK K
              refine U_done (by kernel_rfl) ?_ _
              obtain ⟨o5, g5⟩ := O4.out.set k2 (.int .i64 (x : Int))
              obtain ⟨wd, hwd⟩ : ∃ wd, (wc.setCell ⟨g, k2, none⟩ (.int .i64 (x : Int))) = wd := ⟨_, rfl⟩
              rw [hwd] at o5 g5 ⊢
              have O5 := Lib.hid o5; have G5 := Lib.hid (gb_trans G4.out g5)
              clear hwd c1 f1 o5 g5
              have HNL := Lib.hid (show (((U ++ (Y.take q ++ x :: (Y.drop q ++ Z))).map nv).set k (.int .i64 (z : Int))).set k2 (.int .i64 (x : Int)) = (U ++ (Y.take (q + 1) ++ x :: (Y.drop (q + 1) ++ Z))).map nv from by
                have e5 := set_two (U ++ Y.take q) [] (Y.drop (q + 1) ++ Z) x z
                rw [← HK2.out, ← HP.out] at e5
                rw [HLS.out, HLT.out, ← e5, List.map_set, List.map_set]; rfl)
              go_wp2
              go_roundw
              case rel =>
                refine ⟨k2, q + 1, by first | rfl | rw [e1], Lib.hid (by have := HKQ.out; have := HK3.out; omega), by have := HK3.out; omega, by omega, Lib.hid ?_, by first | exact G5 | exact Lib.hid (gb_drew G5.out)⟩
                have := O5.out
                rw [HNL.out] at this
                exact this
              case measure => simp only [intOf]; have := HIA.out; have := HK3.out; omega
            · have hqs2 : q = s := by omega
              have HF := Lib.hid (show Own wr base 3 1 (some ⟨g, 0, none⟩) n c ((U ++ ((Y.take s ++ x :: Y.drop s) ++ Z)).map nv) from by have := hok.out; rw [hqs2] at this; simpa using this)
              have HPM := Lib.hid (show (Y.take s ++ x :: Y.drop s).Perm ([x] ++ Y) from by
                refine List.perm_middle.trans ?_
                rw [← HYD.out]; exact List.Perm.refl _)
              have hkz : ¬ (k : Int) < ((a + s : Nat) : Int) := by have := HKQ.out; omega
              have hkz2 : ¬ (k : Int) < (a : Int) + (s : Int) := by have := HKQ.out; omega
              clear hqs2
              go_wp2_with fail
              go_end0
              exact ⟨rfl, _, HPM.out, HMS.out, HF.out, hgk.out⟩
    · have hz1 : ((m : Int) - (a : Int) == 1) = false := by rw [beq_eq_false_iff_ne]; omega
      by_cases hY1 : b - m = 1
      · -- one of the second row goes into the first
        have hz2 : ((b : Int) - (m : Int) == 1) = true := by rw [beq_iff_eq]; omega
        obtain ⟨x, hx⟩ : ∃ x, Y = [x] := by
          have : Y.length = 1 := by have := HB.out; omega
          exact List.length_eq_one_iff.1 this
        subst hx
        have HXL := Lib.hid (show X.length = m - a from by have := HM.out; omega)
        have HYA := Lib.hid (show (U ++ (X ++ ([x] ++ Z)))[m]? = some x from by
          rw [← List.append_assoc, List.getElem?_append_right (by rw [List.length_append]; have := HM.out; have := HA.out; omega)]
          have : m - (U ++ X).length = 0 := by rw [List.length_append]; have := HM.out; have := HA.out; omega
          rw [this]; rfl)
        have HXA := Lib.hid (show ∀ p, (hp : p < X.length) → (U ++ (X ++ ([x] ++ Z)))[a + p]? = some X[p] from fun p hp => by
          rw [List.getElem?_append_right (by have := HA.out; omega), List.getElem?_append_left (by have := HA.out; omega)]
          have : a + p - U.length = p := by have := HA.out; omega
          rw [this, List.getElem?_eq_getElem hp])
        clear hX1 hY1
        go_enter Try.func51, Try.ntmps51
        go_wp2_with fail
        go_loopw [14, 15] (fun u v wr => ∃ i j : Nat, u = .int .i64 i ∧ v = .int .i64 j ∧ a ≤ i ∧ i ≤ j ∧ j ≤ m ∧ Hid (∀ p, (hp : p < X.length) → a + p < i → rs.getD x 0 ≤ rs.getD X[p] 0) ∧ Hid (∀ p, (hp : p < X.length) → j ≤ a + p → rs.getD X[p] 0 < rs.getD x 0) ∧
          Hid (Own wr base 3 1 (some ⟨g, 0, none⟩) n c ((U ++ (X ++ ([x] ++ Z))).map nv)) ∧ Hid (Cmp wr g y AR N cR rs) ∧ Hid (w.grownBy wr (some g))) (fun u v _ => (intOf v).toNat - (intOf u).toNat)
        case atStart => exact ⟨a, m, rfl, rfl, Nat.le_refl _, Nat.le_of_lt ham, Nat.le_refl _, Lib.hid (fun p hp h => absurd h (by omega)), Lib.hid (fun p hp h => absurd hp (by have := HXL.out; omega)), HO, HC, Lib.hid (gb_nw (Nw.refl _))⟩
        case round =>
          obtain ⟨i, j, rfl, rfl, hmi, hij, hjb, hlo, hhi, hor, hcr, hgr⟩ := hrel
          by_cases hlt : i < j
          · have hltz : (i : Int) < (j : Int) := by omega
            obtain ⟨h, hh⟩ : ∃ h, h = (i + j) / 2 := ⟨_, rfl⟩
            have hhi1 : i ≤ h ∧ h < j := by omega
            obtain ⟨p, hp⟩ : ∃ p, h = a + p := ⟨h - a, by omega⟩
            have hpl : p < X.length := by have := HXL.out; omega
            obtain ⟨z, hz⟩ : ∃ z, X[p] = z := ⟨_, rfl⟩
            have cz := dcell hor.out (HXA.out p hpl)
            rw [hz, ← hp] at cz
            have cx := dcell hor.out HYA.out
            have hc1 := cz.1; have hc2 := cx.1
            have hhn : h < n := cz.2.2
            have hhz : (h : Int) < (n : Int) := by omega
            have hmn : (m : Int) < (n : Int) := by have := cx.2.2; omega
            have hzN : z < N := HN.out z (by rw [← hz]; exact List.mem_append_left _ (List.getElem_mem _))
            have hxN : x < N := HN.out x (by simp)
            have HB40 := Lib.hid (cmp_call hcr.out hxN hzN)
            have hneg := cmpf_neg (x := rs.getD z 0) (y := rs.getD x 0)
            obtain ⟨r, hr⟩ : ∃ r, cmpf (rs.getD z 0) (rs.getD x 0) = r := ⟨_, rfl⟩
            rw [hr] at HB40 hneg
            have HZ := Lib.hid hz; have HH := Lib.hid hh; have HP := Lib.hid hp
            have eh : ((i : Int) + (j : Int)) / 2 = (h : Int) := by omega
            have HPL := Lib.hid hpl
            clear hr hz hh hp cz cx
            by_cases hless : rs.getD z 0 < rs.getD x 0
            · rw [decide_eq_true hless] at hneg
              have HL2 := Lib.hid (show ∀ q, (hq : q < X.length) → h ≤ a + q → rs.getD X[q] 0 < rs.getD x 0 from fun q hq hqh => by
                have := fall_at HX.out HPL.out hq (by have := HP.out; omega)
                rw [HZ.out] at this; omega)
              clear hless
              go_wp2_with fail
              go_quiet (exact Calls.quiet_of (HB40.out _))
              go_wp2
              go_roundw
              case rel => exact ⟨i, h, rfl, by go_num, by omega, by omega, by omega, hlo, HL2, Lib.hid (hor.out.drewN nq), Lib.hid (hcr.out.drewN nq), Lib.hid (gb_drewN hgr.out nq)⟩
              case measure => simp only [intOf]; omega
            · rw [decide_eq_false hless] at hneg
              have HL2 := Lib.hid (show ∀ q, (hq : q < X.length) → a + q < h + 1 → rs.getD x 0 ≤ rs.getD X[q] 0 from fun q hq hqh => by
                have := fall_at HX.out hq HPL.out (by have := HP.out; omega)
                rw [HZ.out] at this; omega)
              clear hless
              go_wp2_with fail
              go_quiet (exact Calls.quiet_of (HB40.out _))
              go_wp2
              go_roundw
              case rel => exact ⟨h + 1, j, by go_num, rfl, by omega, by omega, hjb, HL2, hhi, Lib.hid (hor.out.drewN nq), Lib.hid (hcr.out.drewN nq), Lib.hid (gb_drewN hgr.out nq)⟩
              case measure => simp only [intOf]; omega
          · have hij2 : i = j := by omega
            obtain ⟨s, hs⟩ : ∃ s, i = a + s := ⟨i - a, by omega⟩
            have hsX : s ≤ X.length := by have := HXL.out; omega
            have HS := Lib.hid hs
            have HXD := Lib.hid (show X = X.take s ++ X.drop s from (List.take_append_drop s X).symm)
            have HMS := Lib.hid (show (X.take s ++ x :: X.drop s).Pairwise (bef rs) from by
              refine put_right (by rw [← HXD.out]; exact HX.out) (fun z hz => ?_) (fun z hz => ?_) (fun z hz => HXY.out z (by rw [← HXD.out] at hz; exact hz) x (by simp))
              · obtain ⟨q, hq, e⟩ := List.mem_take_iff_getElem.1 hz
                have := hlo.out q (by omega) (by omega)
                rw [e] at this; omega
              · obtain ⟨q, hq, e⟩ := List.getElem_of_mem hz
                rw [List.getElem_drop] at e
                have := hhi.out (s + q) (by rw [List.length_drop] at hq; omega) (by omega)
                rw [e] at this
                exact this)
            have HSX := Lib.hid hsX
            have HOR := Lib.hid (show Own wr base 3 1 (some ⟨g, 0, none⟩) n c ((U ++ (X.take (m - a) ++ x :: (X.drop (m - a) ++ Z))).map nv) from by
              rw [List.take_of_length_le (by rw [HXL.out]; exact Nat.le_refl _), List.drop_of_length_le (by rw [HXL.out]; exact Nat.le_refl _)]
              simpa using hor.out)
            have him : i ≤ m := by omega
            have hsm : s ≤ m - a := by omega
            clear hlo hhi hs hor hij2
            go_wp2_with fail
            go_loopw [17] (fun v wr => ∃ k q : Nat, v = .int .i64 k ∧ Hid (k = a + q) ∧ k ≤ m ∧ s ≤ q ∧ q ≤ m - a ∧ Hid (Own wr base 3 1 (some ⟨g, 0, none⟩) n c ((U ++ (X.take q ++ x :: (X.drop q ++ Z))).map nv)) ∧ Hid (w.grownBy wr (some g))) (fun v _ => (intOf v).toNat)
            case atStart => exact ⟨m, m - a, rfl, Lib.hid (by omega), Nat.le_refl _, hsm, Nat.le_refl _, HOR, hgr⟩
            case round =>
              obtain ⟨k, q, rfl, HKQ, hkb, hsq, hqm, hok, hgk⟩ := hrel
              by_cases hlt2 : s < q
              · obtain ⟨q', hq'⟩ : ∃ q', q = q' + 1 := ⟨q - 1, by omega⟩
                have hqX : q' < X.length := by have := HXL.out; omega
                obtain ⟨z, hz⟩ : ∃ z, X[q'] = z := ⟨_, rfl⟩
                have HLS := Lib.hid (show U ++ (X.take q ++ x :: (X.drop q ++ Z)) = (U ++ X.take q') ++ z :: ([] ++ x :: (X.drop q ++ Z)) from by rw [hq', List.take_succ_eq_append_getElem hqX, hz]; simp)
                have HLT := Lib.hid (show U ++ (X.take q' ++ x :: (X.drop q' ++ Z)) = (U ++ X.take q') ++ x :: ([] ++ z :: (X.drop q ++ Z)) from by rw [List.drop_eq_getElem_cons hqX, hz, hq']; simp)
                obtain ⟨k2, hk2⟩ : ∃ k2, k = k2 + 1 := ⟨k - 1, by have := HKQ.out; omega⟩
                have HP := Lib.hid (show k2 = (U ++ X.take q').length from by rw [List.length_append, List.length_take, ← HA.out]; have := HKQ.out; omega)
                have HK2 := Lib.hid (show k = (U ++ X.take q').length + 1 + ([] : List Nat).length from by rw [← HP.out]; simpa using hk2)
                have hat := at_two (U ++ X.take q') [] (X.drop q ++ Z) z x
                rw [← HK2.out, ← HP.out, ← HLS.out] at hat
                have cp := (dcell hok.out hat.2).1
                have cq := (dcell hok.out hat.1).1
                have hpn := (dcell hok.out hat.2).2.2
                have hqn := (dcell hok.out hat.1).2.2
                have hpz : (k : Int) < (n : Int) := by omega
                have hqz : (k2 : Int) < (n : Int) := by omega
                have e1 : IntKind.i64.wrap ((k : Int) - 1) = (k2 : Int) := by rw [IntKind.wrap_i64]; omega
                have hkz : (i : Int) < (k : Int) := by have := HKQ.out; have := HS.out; omega
                have HK3 := Lib.hid hk2; have HQ3 := Lib.hid hq'
                have hik : i < k := by have := HKQ.out; have := HS.out; omega
                clear hat hz hk2 hq'
                go_wp2_with fail
                have S3 := Lib.hid (And.intro cp cq)
                clear cp cq
                refine wp_region_U [15] (fun w' => w'.cell? ⟨g, k, none⟩ = some (.int .i64 (x : Int)) ∧ w'.cell? ⟨g, k2, none⟩ = some (.int .i64 (z : Int))) (by kernel_rfl) ?_
                change wpU _ _ _ _ _ _ _ _ _ (World.drew wr)
                refine U_segP (r := [0, 1, 2, 3, 4, 5, 6, 7, 8]) (fuel := 9) rfl (by kernel_rfl) (by kernel_rfl) (by simp only [List.filterMap_cons, List.filterMap_nil, List.getElem?_toArray, List.getElem?_cons_succ, List.getElem?_cons_zero]; rfl) (fun _ _ d _ _ h => by cases d <;> exact h) (until_of S3.out) ?_
                iterate 9 (refine wpYield_step rfl (fun K hK => ?_)
                           apply Exists.intro
                           refine ⟨fun w' hw' => ?_, ?_⟩
                           · (go_simp; try with_reducible rfl)
                           go_simp
                           refine hK _ ?_
                           clear hK K)
                refine wpYield_nil ?_
                refine U_segL (r := [9]) (fuel := 8) rfl (by kernel_rfl) (by kernel_rfl) (by simp only [List.filterMap_cons, List.filterMap_nil, List.getElem?_toArray, List.getElem?_cons_succ, List.getElem?_cons_zero]; rfl) (fun _ _ d _ _ h => by cases d <;> exact h) S3.out ?_
                (refine wpYield_step rfl (fun K hK => ?_)
                 apply Exists.intro
                 refine ⟨fun w' hw' => ?_, ?_⟩
                 · (go_simp; try with_reducible rfl)
                 go_simp
                 refine hK _ ?_
                 clear hK K)
                refine wpYield_nil ?_
                refine U_segP (r := [10, 11, 12]) (fuel := 5) rfl (by kernel_rfl) (by kernel_rfl) (by simp only [List.filterMap_cons, List.filterMap_nil, List.getElem?_toArray, List.getElem?_cons_succ, List.getElem?_cons_zero]; rfl) (fun _ _ d _ _ h => by cases d <;> exact h) (until_of S3.out) ?_
                iterate 3 (refine wpYield_step rfl (fun K hK => ?_)
                           apply Exists.intro
                           refine ⟨fun w' hw' => ?_, ?_⟩
                           · (go_simp; try with_reducible rfl)
                           go_simp
                           refine hK _ ?_
                           clear hK K)
                refine wpYield_nil ?_
                refine U_segL (r := [13]) (fuel := 4) rfl (by kernel_rfl) (by kernel_rfl) (by simp only [List.filterMap_cons, List.filterMap_nil, List.getElem?_toArray, List.getElem?_cons_succ, List.getElem?_cons_zero]; rfl) (fun _ _ d _ _ h => by cases d <;> exact h) S3.out ?_
                (refine wpYield_step rfl (fun K hK => ?_)
                 apply Exists.intro
                 refine ⟨fun w' hw' => ?_, ?_⟩
                 · (go_simp; try with_reducible rfl)
                 go_simp
                 refine hK _ ?_
                 clear hK K)
                refine wpYield_nil ?_
                refine U_segP (r := [14]) (fuel := 3) rfl (by kernel_rfl) (by kernel_rfl) (by simp only [List.filterMap_cons, List.filterMap_nil, List.getElem?_toArray, List.getElem?_cons_succ, List.getElem?_cons_zero]; rfl) (fun _ _ d _ _ h => by cases d <;> exact h) (until_of S3.out) ?_
                (refine wpYield_step rfl (fun K hK => ?_)
                 apply Exists.intro
                 refine ⟨fun w' hw' => ?_, ?_⟩
                 · (go_simp; try with_reducible rfl)
                 go_simp
                 refine hK _ ?_
                 clear hK K)
                refine wpYield_nil ?_
                refine U_eff 15 rfl (by kernel_rfl) rfl (fun K hK => ?_)
                obtain ⟨u0, _, c0, f0⟩ := ((hok.out).drew).cellAt hpn
                go_simp
                refine hK _ _ ⟨until_past (by kernel_rfl), ?_⟩
                clear hK K
                have o4 := ((hok.out).set k (.int .i64 (z : Int))).1.drew
                have g4 := gb_drew (gb_trans (hgk.out) ((hok.out).set k (.int .i64 (z : Int))).2)
                obtain ⟨wc, hwc⟩ : ∃ wc, ((wr).setCell ⟨g, k, none⟩ (.int .i64 (z : Int))).drew = wc := ⟨_, rfl⟩
                rw [hwc] at o4 g4 ⊢
                have O4 := Lib.hid o4; have G4 := Lib.hid g4
                clear hwc f0 c0 o4 g4
                refine U_segP (r := [16]) (fuel := 1) rfl (by kernel_rfl) (by kernel_rfl) (by simp only [List.filterMap_cons, List.filterMap_nil, List.getElem?_toArray, List.getElem?_cons_succ, List.getElem?_cons_zero]; rfl) (fun _ _ d _ _ h => by cases d <;> exact h) (until_past (by kernel_rfl)) ?_
                (refine wpYield_step rfl (fun K hK => ?_)
                 apply Exists.intro
                 refine ⟨fun w' hw' => ?_, ?_⟩
                 · (go_simp; try with_reducible rfl)
                 go_simp
                 refine hK _ ?_
                 clear hK K)
                refine wpYield_nil ?_
                refine U_eff 17 rfl (by kernel_rfl) rfl (fun K hK => ?_)
                obtain ⟨u1, _, c1, f1⟩ := O4.out.cellAt hqn
                go_simp
                refine hK _ _ ⟨until_past (by kernel_rfl), ?_⟩
                clear hK K
                refine U_done (by kernel_rfl) ?_ _
                obtain ⟨o5, g5⟩ := O4.out.set k2 (.int .i64 (x : Int))
                obtain ⟨wd, hwd⟩ : ∃ wd, (wc.setCell ⟨g, k2, none⟩ (.int .i64 (x : Int))) = wd := ⟨_, rfl⟩
                rw [hwd] at o5 g5 ⊢
                have O5 := Lib.hid o5; have G5 := Lib.hid (gb_trans G4.out g5)
                clear hwd c1 f1 o5 g5
                have HNL := Lib.hid (show (((U ++ (X.take q ++ x :: (X.drop q ++ Z))).map nv).set k (.int .i64 (z : Int))).set k2 (.int .i64 (x : Int)) = (U ++ (X.take q' ++ x :: (X.drop q' ++ Z))).map nv from by
                  have e5 := swap_mid (U ++ X.take q') (X.drop q ++ Z) x z
                  have e6 : (U ++ X.take q').length + 1 = k := by have := HK2.out; simpa using this.symm
                  rw [e6, ← HP.out] at e5
                  rw [HLS.out, HLT.out]
                  have e7 : (U ++ X.take q') ++ x :: ([] ++ z :: (X.drop q ++ Z)) = (U ++ X.take q') ++ x :: z :: (X.drop q ++ Z) := rfl
                  have e8 : (U ++ X.take q') ++ z :: ([] ++ x :: (X.drop q ++ Z)) = (U ++ X.take q') ++ z :: x :: (X.drop q ++ Z) := rfl
                  rw [e7, e8, ← e5, List.map_set, List.map_set]; rfl)
                go_wp2
                go_roundw
                case rel =>
                  refine ⟨k2, q', by first | rfl | rw [e1], Lib.hid (by have := HKQ.out; have := HK3.out; have := HQ3.out; omega), by have := HK3.out; omega, by have := HQ3.out; omega, by have := HQ3.out; omega, Lib.hid ?_, by first | exact G5 | exact Lib.hid (gb_drew G5.out)⟩
                  have := O5.out
                  rw [HNL.out] at this
                  exact this
                case measure => simp only [intOf]; have := HK3.out; omega
              · have hqs2 : q = s := by omega
                have HF := Lib.hid (show Own wr base 3 1 (some ⟨g, 0, none⟩) n c ((U ++ ((X.take s ++ x :: X.drop s) ++ Z)).map nv) from by have := hok.out; rw [hqs2] at this; simpa using this)
                have HPM := Lib.hid (show (X.take s ++ x :: X.drop s).Perm (X ++ [x]) from by
                  refine List.perm_middle.trans ?_
                  rw [← HXD.out]; exact (List.perm_append_singleton x X).symm)
                have hkz : ¬ (i : Int) < (k : Int) := by have := HKQ.out; have := HS.out; omega
                clear hqs2
                go_wp2_with fail
                go_end0
                exact ⟨rfl, _, HPM.out, HMS.out, HF.out, hgk.out⟩
      · exact both_any fuel IH.out w base g y n c N cR a m b AR rs U X Y Z HO.out HC.out hn HN.out HX.out HY.out HXY.out HA.out HM.out HB.out (by omega) (by omega) (by omega)
end Go.Proofs.Ytobifmndpkjlmaa


