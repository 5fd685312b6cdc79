/- The walk of QuorumNewer. -/
import Derived.Test.YtkkkhkkjdjnfhaaJI
set_option linter.unusedVariables false
set_option linter.unusedSimpArgs false
namespace Go.Proofs.Ytkkkhkkjdjnfhaa
open Go.RowKit Go.BW

set_option maxRecDepth 100000 in
set_option maxHeartbeats 8000000 in
theorem newer_walk {w : World} {B : Nat} {x : Lb} (h : LOk w B x) (hB : B ≤ w.heap.size) (p q : Int) (hp : -9223372036854775808 ≤ p ∧ p ≤ 9223372036854775807) (hq : -9223372036854775808 ≤ q ∧ q ≤ 9223372036854775807) : Calls Try.prog 3 #[lv x, .int .i64 p, .int .i64 q] w (Ret (.bool true) w) := by
  have hbx := Obj1.new w 24 #[.int .i64 x.a, .int .i64 x.g, .int .i64 x.m, .int .i64 x.b, .slice x.A x.n x.c]
  have hg0 := World.grownBy_alloc w (.cells #[.int .i64 x.a, .int .i64 x.g, .int .i64 x.m, .int .i64 x.b, .slice x.A x.n x.c] 24) none
  have HS := Lib.hid shown_any
  unfold Ret at HS
  have HC := Lib.hid (fun w' (k : Nw w w') => cut_any (h.nw k hB) (Nat.le_trans hB k.size))
  unfold CutPost at HC
  unfold lv at HC ⊢
  obtain ⟨a, g, m, b, A, n, c, ms0⟩ := x
  simp only at HC hbx hg0 ⊢
  obtain ⟨ms, hms⟩ : ∃ ms, ms0.take 20 = ms := ⟨_, rfl⟩
  have hml : ms.length ≤ 20 := by rw [← hms, List.length_take]; omega
  rw [hms] at HC
  obtain ⟨V, hV⟩ : ∃ V, w.alloc (.cells #[.int .i64 a, .int .i64 g, .int .i64 m, .int .i64 b, .slice A n c] 24) = V := ⟨_, rfl⟩
  obtain ⟨y, hy⟩ : ∃ y, w.heap.size = y := ⟨_, rfl⟩
  rw [hV] at hbx hg0
  rw [hy] at hbx
  have hyw : w.heap.size ≤ y := by omega
  have hyV := hbx.lt
  have OB := Lib.hid hbx; have N0 := Lib.hid hg0
  clear hms h
  go_enter Try.func3, Try.ntmps3
  go_upto_region 3 with (first
    | (refine wpList_store_obj 24 _ _ rfl rfl [.int .i64 a, .int .i64 g, .int .i64 m, .int .i64 b, .slice A2 n2 c2] rfl rfl rfl (by kernel_rfl) (lc_one1 a g m b A2 n2 c2) (OB1.out.nw k2) rfl ?_; intro w3 s1 s2)
    | ((with_reducible refine (HC.out _ N1.out).mono ?_); rintro e w2 ⟨A2, n2, c2, rfl, o2, k2⟩)
    | (refine wpList_load_obj 24 _ rfl rfl rfl OB1.out _ Try.underlying24 rfl (by kernel_rfl) ?_)
    | ((with_reducible refine (HS.out _).mono ?_); rintro e w1 ⟨rfl, k1⟩; have OB1 := Lib.hid (OB.out.nw k1); have N1 := Lib.hid (gb_trans N0.out k1)))
  have o3 := o2.kept s2 (fun r hr e => by injection hr with hr; subst hr; obtain ⟨cur, ho⟩ := o2.rowObj _ e; exact ho.ne (OB1.out.nw k2) (by decide) rfl)
  have n3 := nw_of_gb (gb_trans N1.out k2) s2 (fun r hr => by injection hr with hr; omega)
  have hn2 : n2 = ms.length := (o2.lenL mc_len (by decide)).symm
  have hn20 : n2 ≤ 20 := by omega
  have hbs : w.heap.size ≤ w1.heap.size := N1.out.size
  have O3 := Lib.hid (o3.more hbs); have N3 := Lib.hid n3; have B3 := Lib.hid s1
  have HL := Lib.hid hn2
  clear o2 o3 n3 s1 s2 k1 k2 HC OB OB1 N0 N1 hbs hn2
  go_wp2_with fail
  go_loopw [8] (fun i wr => ∃ (j : Nat), j ≤ n2 ∧ i = .int .i64 j ∧ Own wr w.heap.size 28 3 A2 n2 c2 (fl mc (liveTo ms j)) ∧ Obj1 wr y 24 #[.int .i64 a, .int .i64 g, .int .i64 m, .int .i64 b, .slice A2 n2 c2] ∧ Nw w wr) (fun i _ => n2 - (intOf i).toNat)
  case atStart => exact ⟨0, Nat.zero_le _, rfl, by rw [liveTo_zero]; exact O3.out, B3.out, N3.out⟩
  case round =>
    obtain ⟨j, hj, rfl, hown, hbox, hnw⟩ := hrel
    by_cases hlt : j < n2
    · have hjn : (j : Int) < (n2 : Int) := by omega
      obtain ⟨r, rfl, hr⟩ := hown.some_ (by omega)
      obtain ⟨⟨u, hu, hf⟩, hs, hgb⟩ := live_step hown hlt
      obtain ⟨cur, hro⟩ := hown.obj
      have hne : y ≠ r := hbox.ne hro (by decide)
      have hk4 := hbox.cell 4
      have S := Lib.hid hs; have G := Lib.hid hgb; have BX := Lib.hid hbox; have NR := Lib.hid hnw
      clear hs hgb hown hbox hro hnw
      go_wp2
      go_roundw
      case rel => exact ⟨j + 1, by omega, by go_num, S.out, BX.out.chg (Chg.of_gb (F := [r]) G.out (by intro q hq; injection hq with hq; simp [hq])) (by simpa using hne), nw_of_gb NR.out G.out (fun q hq => by injection hq with hq; omega)⟩
      case measure => simp only [intOf]; omega
    · have hje : j = n2 := by omega
      subst hje
      have hjn : decide ((j : Int) < (j : Int)) = false := by simp
      rw [liveTo_all (by rw [HL.out]; exact Nat.le_refl _)] at hown
      have hk4 := hbox.cell 4
      have S := Lib.hid hown; have BX := Lib.hid hbox; have NR := Lib.hid hnw
      clear hown hbox hnw
      go_upto_region 7 with fail
      have hok : LOk wr wr.heap.size ⟨a, g, m, b, A2, j, c2, ms.map live⟩ := ⟨S.out.rd, S.out.cap.1, S.out.cap.2⟩
      have HR := Lib.hid (right_any hok (Nat.le_refl _) (by simp only; omega))
      unfold lv Ret at HR
      simp only at HR
      obtain ⟨mL, hmL⟩ : ∃ mL, ms.map live = mL := ⟨_, rfl⟩
      have HML := Lib.hid (show mL = ms.map live from hmL.symm)
      rw [hmL] at HR S hok
      obtain ⟨R, hRR⟩ : ∃ R, rightB ⟨a, g, m, b, A2, j, c2, mL⟩ = R := ⟨_, rfl⟩
      rw [hRR] at HR
      have HRR := Lib.hid hRR
      clear hok hRR
      have k1 := BX.out.cell 1
      rcases R with _ | _
      · go_wp2_with (first | ((with_reducible refine HR.out.mono ?_); rintro e w4 ⟨rfl, k4⟩; have BX4 := Lib.hid (BX.out.nw k4); have S4 := Lib.hid (S.out.nw k4); have N4 := Lib.hid (gb_trans NR.out k4)) | (refine wpList_load_obj 24 _ rfl rfl rfl BX.out _ Try.underlying24 rfl (by kernel_rfl) ?_))
        go_ret
        exact ⟨rfl, N4.out⟩
      have hgm : True := trivial
      rcases (show 2147483648 < g ∨ g ≤ 2147483648 by omega) with hg | hg
      · have k1b : ∀ w', Nw wr w' → w'.cell? ⟨y, 1, none⟩ = some (.int .i64 g) := fun w' k => (BX.out.nw k).cell 1
        go_wp2_with (first | ((with_reducible refine HR.out.mono ?_); rintro e w4 ⟨rfl, k4⟩; have N4 := Lib.hid (gb_trans NR.out k4); have kg := k1b w4 k4) | (refine wpList_load_obj 24 _ rfl rfl rfl BX.out _ Try.underlying24 rfl (by kernel_rfl) ?_))
        go_ret
        exact ⟨rfl, N4.out⟩
      have hgd : decide (2147483648 < g) = false := by simp; omega
      have hj3 := (right_parts HRR.out).1
      have hj12 := (right_parts HRR.out).2.1
      simp only at hj3 hj12
      have hjz : ¬ ((j : Int) = 0) := by omega
      obtain ⟨pm, i1, hpm, hpi, hi1⟩ := place p (show 0 < j by omega)
      go_upto_region 9 with (first | ((with_reducible refine HR.out.mono ?_); rintro e w4 ⟨rfl, k4⟩; have BX4 := Lib.hid (BX.out.nw k4); have S4 := Lib.hid (S.out.nw k4); have N4 := Lib.hid (gb_trans NR.out k4); have kg := BX4.out.cell 1; have kg4 := BX4.out.cell 4) | (refine wpList_load_obj 24 _ rfl rfl rfl BX.out _ Try.underlying24 rfl (by kernel_rfl) ?_))
      have hln : mL.length = j := S4.out.lenL mc_len (by decide)
      have hlive : ∀ z ∈ mL, z.st = 0 := by intro z hz; rw [HML.out, List.mem_map] at hz; obtain ⟨z', _, rfl⟩ := hz; rfl
      obtain ⟨q1, hq1⟩ : ∃ z, mL[i1]? = some z := ⟨_, List.getElem?_eq_getElem (show i1 < mL.length by omega)⟩
      obtain ⟨r, rfl, hr⟩ := S4.out.some_ (by omega)
      have hok4 : LOk w4 w4.heap.size ⟨a, g, m, b, some ⟨r, 0, none⟩, j, c2, mL⟩ := ⟨S4.out.rd, S4.out.cap.1, S4.out.cap.2⟩
      have hlo := fun (w' : World) (k : Nw w4 w') => lost_live (x := ⟨a, g, m, b, some ⟨r, 0, none⟩, j, c2, mL⟩) (q := q1) (hok4.nw k (Nat.le_refl _)) k.size (by simp only; omega) HRR.out hlive (by simp only; omega) hq1
      simp only at hlo
      have HLO := Lib.hid hlo; have HQ1 := Lib.hid hq1; have HOK := Lib.hid hok4
      have hc4 : ∀ w', Nw w4 w' → w'.cell? ⟨y, 4, none⟩ = some (.slice (some ⟨r, 0, none⟩) j c2) := fun w' k => (BX4.out.nw k).cell 4
      have hci : ∀ w', Nw w4 w' → w'.cell? ⟨r, i1 * 3, none⟩ = some (.int .i64 q1.id) := fun w' k => (S4.out.nw k).atL mc_len (by decide) hq1 0 _ rfl
      have HC4 := Lib.hid hc4; have HCI := Lib.hid hci
      clear hlo hq1 hok4 hc4 hci hlive HR BX S NR kg k4
      go_upto_region 10 with fail
      go_cut [10, 11] (fun x e wx => ∃ (x5 r5 c5 : Nat), x = .pointer (some ⟨x5, 0, none⟩) ∧ e = .int .i64 0 ∧ Obj1 wx x5 24 #[.int .i64 a, .int .i64 (g + 1), .int .i64 m, .int .i64 b, .slice (some ⟨r5, 0, none⟩) j c5] ∧ Own wx w.heap.size 28 3 (some ⟨r5, 0, none⟩) j c5 (fl mc (mL.set i1 (failed q1))) ∧ Nw w4 wx)
      case first =>
        have hc4 := HC4.out; have hci := HCI.out
        refine wp_region_held (S := (fun w' => Nw w4 w')) (by kernel_rfl) ?_
        change wpAnyH _ _ _ _ _ _ _ _ (World.drew w4)
        refine held_seg' (l := [0, 1, 2, 3, 4, 5, 6]) (fuel := 7) rfl (by kernel_rfl) (by kernel_rfl) (by simp only [List.filterMap_cons, List.filterMap_nil, List.getElem?_toArray, List.getElem?_cons_succ, List.getElem?_cons_zero]; rfl) (fun _ _ d _ _ h => by cases d <;> exact h) (gb_drew (Nw.refl w4)) ?_
        refine wpYield_load_agg 24 _ rfl rfl rfl [.int .i64 a, .int .i64 g, .int .i64 m, .int .i64 b, .slice (some ⟨r, 0, none⟩) j c2] (fun w' hw' => load_of (BX4.out.nw hw')) _ Try.underlying24 rfl (by kernel_rfl) ?_
        iterate 6 (refine wpYield_step rfl (fun K hK => ?_)
                   apply Exists.intro
                   refine ⟨fun w' hw' => ?_, ?_⟩
                   · (go_simp; try with_reducible rfl)
                   go_simp
                   refine hK _ ?_
                   clear hK K)
        refine wpYield_nil ?_
        have NB := Lib.hid (show Nw w4 w4.drew from gb_drew (Nw.refl w4))
        generalize w4.drew = wd at NB ⊢
        clear hc4 hci
        refine wpAnyH_all (rs := [7, 11]) (by kernel_rfl) (by simp) fun jj hjj => ?_
        simp only [List.mem_cons, List.not_mem_nil, or_false] at hjj
        rcases hjj with rfl | rfl
        · refine wpOp_take 7 rfl rfl (fun K hK => ?_)
          go_simp
          refine (HLO.out _ NB.out).mono ?_
          rintro e w5 ⟨k5, r5, c5, rfl, o5⟩
          have N5 := Lib.hid (gb_trans NB.out k5)
          have O5 := Lib.hid (o5.more (gb_trans N4.out NB.out).size)
          refine hK _ _ ⟨N5.out, ?_⟩
          clear hK K k5
          refine held_seg' (l := [8, 9, 10]) (fuel := 3) rfl (by kernel_rfl) (by kernel_rfl) (by simp only [List.filterMap_cons, List.filterMap_nil, List.getElem?_toArray, List.getElem?_cons_succ, List.getElem?_cons_zero]; rfl) (fun _ _ d _ _ h => by cases d <;> exact h) N5.out ?_
          iterate 3 (refine wpYield_step rfl (fun K hK => ?_)
                     apply Exists.intro
                     refine ⟨fun w' hw' => ?_, ?_⟩
                     · (go_simp; try with_reducible rfl)
                     go_simp
                     refine hK _ ?_
                     clear hK K)
          refine wpYield_nil ?_
          refine held_eff 11 rfl (by kernel_rfl) rfl (fun K hK => ?_)
          go_simp
          have XB := Obj1.new w5 24 #[.int .i64 0, .int .i64 0, .int .i64 0, .int .i64 0, .slice none 0 0]
          have GX := World.grownBy_alloc w5 (.cells #[.int .i64 0, .int .i64 0, .int .i64 0, .int .i64 0, .slice none 0 0] 24) none
          have hxl : w4.heap.size ≤ w5.heap.size := N5.out.size
          obtain ⟨V, hV⟩ : ∃ V, w5.alloc (.cells #[.int .i64 0, .int .i64 0, .int .i64 0, .int .i64 0, .slice none 0 0] 24) = V := ⟨_, rfl⟩
          obtain ⟨xx, hxx⟩ : ∃ x, w5.heap.size = x := ⟨_, rfl⟩
          rw [hV] at XB GX ⊢
          rw [hxx] at XB hxl ⊢
          have NV := Lib.hid (gb_trans N5.out GX); have XV := Lib.hid XB
          have O6 := Lib.hid (O5.out.nw GX)
          clear hV hxx XB GX
          refine hK _ _ ⟨NV.out, ?_⟩
          clear hK K
          refine held_eff 12 rfl (by kernel_rfl) rfl (fun K hK => ?_)
          refine wp_store_obj 24 _ _ rfl [.int .i64 a, .int .i64 (g + 1), .int .i64 m, .int .i64 b, .slice (some ⟨r5, 0, none⟩) j c5] rfl rfl rfl (by kernel_rfl) (lc_one1 _ _ _ _ _ _ _) XV.out rfl (fun w7 s1 s2 => ?_)
          have N7 := nw_of_gb NV.out s2 (fun r hr => by injection hr with hr; omega)
          have O7 := O6.out.kept s2 (fun r hr e => by injection hr with hr; subst hr; obtain ⟨cur, ho⟩ := O6.out.rowObj _ e; exact ho.ne XV.out (by decide) rfl)
          refine hK _ _ ⟨N7, ?_⟩
          clear hK K
          refine held_seg' (l := [13]) (fuel := 0) rfl (by kernel_rfl) (by kernel_rfl) (by simp only [List.filterMap_cons, List.filterMap_nil, List.getElem?_toArray, List.getElem?_cons_succ, List.getElem?_cons_zero]; rfl) (fun _ _ d _ _ h => by cases d <;> exact h) N7 ?_
          (refine wpYield_step rfl (fun K hK => ?_)
           apply Exists.intro
           refine ⟨fun w' hw' => ?_, ?_⟩
           · (go_simp; try with_reducible rfl)
           go_simp
           refine hK _ ?_
           clear hK K)
          refine wpYield_nil ?_
          refine wpAnyH_done (by kernel_rfl) ?_ _
          go_wp2
          go_meet
          exact ⟨xx, r5, c5, rfl, rfl, s1, O7, N7⟩
        · refine wpOp_take 11 rfl rfl (fun K hK => ?_)
          go_simp
          have XB := Obj1.new wd 24 #[.int .i64 0, .int .i64 0, .int .i64 0, .int .i64 0, .slice none 0 0]
          have GX := World.grownBy_alloc wd (.cells #[.int .i64 0, .int .i64 0, .int .i64 0, .int .i64 0, .slice none 0 0] 24) none
          have hxl : w4.heap.size ≤ wd.heap.size := NB.out.size
          obtain ⟨V, hV⟩ : ∃ V, wd.alloc (.cells #[.int .i64 0, .int .i64 0, .int .i64 0, .int .i64 0, .slice none 0 0] 24) = V := ⟨_, rfl⟩
          obtain ⟨xx, hxx⟩ : ∃ x, wd.heap.size = x := ⟨_, rfl⟩
          rw [hV] at XB GX ⊢
          rw [hxx] at XB hxl ⊢
          have NV := Lib.hid (gb_trans NB.out GX); have XV := Lib.hid XB
          clear hV hxx XB GX
          refine hK _ _ ⟨NV.out, ?_⟩
          clear hK K
          refine held_eff 7 rfl (by kernel_rfl) rfl (fun K hK => ?_)
          go_simp
          refine (HLO.out _ NV.out).mono ?_
          rintro e w5 ⟨k5, r5, c5, rfl, o5⟩
          have N5 := Lib.hid (gb_trans NV.out k5); have X5 := Lib.hid (XV.out.nw k5)
          have O6 := Lib.hid (o5.more (gb_trans N4.out NV.out).size)
          refine hK _ _ ⟨N5.out, ?_⟩
          clear hK K k5
          refine held_seg' (l := [8, 9, 10]) (fuel := 2) rfl (by kernel_rfl) (by kernel_rfl) (by simp only [List.filterMap_cons, List.filterMap_nil, List.getElem?_toArray, List.getElem?_cons_succ, List.getElem?_cons_zero]; rfl) (fun _ _ d _ _ h => by cases d <;> exact h) N5.out ?_
          iterate 3 (refine wpYield_step rfl (fun K hK => ?_)
                     apply Exists.intro
                     refine ⟨fun w' hw' => ?_, ?_⟩
                     · (go_simp; try with_reducible rfl)
                     go_simp
                     refine hK _ ?_
                     clear hK K)
          refine wpYield_nil ?_
          refine held_eff 12 rfl (by kernel_rfl) rfl (fun K hK => ?_)
          refine wp_store_obj 24 _ _ rfl [.int .i64 a, .int .i64 (g + 1), .int .i64 m, .int .i64 b, .slice (some ⟨r5, 0, none⟩) j c5] rfl rfl rfl (by kernel_rfl) (lc_one1 _ _ _ _ _ _ _) X5.out rfl (fun w7 s1 s2 => ?_)
          have N7 := nw_of_gb N5.out s2 (fun r hr => by injection hr with hr; omega)
          have O7 := O6.out.kept s2 (fun r hr e => by injection hr with hr; subst hr; obtain ⟨cur, ho⟩ := O6.out.rowObj _ e; exact ho.ne X5.out (by decide) rfl)
          refine hK _ _ ⟨N7, ?_⟩
          clear hK K
          refine held_seg' (l := [13]) (fuel := 0) rfl (by kernel_rfl) (by kernel_rfl) (by simp only [List.filterMap_cons, List.filterMap_nil, List.getElem?_toArray, List.getElem?_cons_succ, List.getElem?_cons_zero]; rfl) (fun _ _ d _ _ h => by cases d <;> exact h) N7 ?_
          (refine wpYield_step rfl (fun K hK => ?_)
           apply Exists.intro
           refine ⟨fun w' hw' => ?_, ?_⟩
           · (go_simp; try with_reducible rfl)
           go_simp
           refine hK _ ?_
           clear hK K)
          refine wpYield_nil ?_
          refine wpAnyH_done (by kernel_rfl) ?_ _
          go_wp2
          go_meet
          exact ⟨xx, r5, c5, rfl, rfl, s1, O7, N7⟩
      case rest =>
        obtain ⟨x5, r5, c5, rfl, rfl, ho5, hr5, hn5⟩ := hcut
        obtain ⟨w8, rfl⟩ : ∃ W, W = wc := ⟨_, rfl⟩
        have hry : rightB ⟨a, g + 1, m, b, some ⟨r5, 0, none⟩, j, c5, mL.set i1 (failed q1)⟩ = true := by
          have hl := right_lost HRR.out (by simp only; omega) HQ1.out
          unfold lostL at hl
          rw [lostM_at (right_rise HRR.out) HQ1.out] at hl
          exact hl
        have HRN := Lib.hid hry
        have BX8 := Lib.hid (BX4.out.nw hn5); have OB8 := Lib.hid ho5; have S8 := Lib.hid (S4.out.nw hn5); have R8 := Lib.hid hr5; have N8 := Lib.hid (gb_trans N4.out hn5)
        have kx1 := OB8.out.cell 1; have ky1 := BX8.out.cell 1
        have hg1 := (right_parts HRR.out).2.2.2.2.1
        simp only at hg1
        clear ho5 hr5 hn5 hry HLO HC4 HCI kg4 BX4 S4 N4
        go_upto_region 16 with fail
        obtain ⟨mN, hmN⟩ : ∃ mN, mL.set i1 (failed q1) = mN := ⟨_, rfl⟩
        rw [hmN] at R8 HRN
        have HMN := Lib.hid (show mN = mL.set i1 (failed q1) from hmN.symm)
        have hln2 : mL.length = j := S8.out.lenL mc_len (by decide)
        have HLN := Lib.hid hln2
        have HLX := Lib.hid (fun q : Mem => show lc (withM ⟨a, g, m, b, some ⟨r, 0, none⟩, j, c2, mL⟩ q) = [.int .i64 a, .int .i64 g, .int .i64 q.id, .int .i64 b, .slice (some ⟨r, 0, none⟩) j c2] from rfl)
        have HLY := Lib.hid (fun q : Mem => show lc (withM ⟨a, g + 1, m, b, some ⟨r5, 0, none⟩, j, c5, mN⟩ q) = [.int .i64 a, .int .i64 (g + 1), .int .i64 q.id, .int .i64 b, .slice (some ⟨r5, 0, none⟩) j c5] from rfl)
        clear hmN hln2 hln kx1 ky1
        go_loopw [12, 13, 14] (fun al sv iv wr => ∃ (i nl cl : Nat) (L : Option Addr) (sm : Bool) (ls : List Lb), i ≤ j ∧ iv = .int .i64 i ∧ al = .slice L nl cl ∧ sv = .bool sm ∧ Mixed ⟨a, g, m, b, some ⟨r, 0, none⟩, j, c2, mL⟩ ⟨a, g + 1, m, b, some ⟨r5, 0, none⟩, j, c5, mN⟩ mL i1 j i sm ls ∧ Own wr w8.heap.size 24 5 L nl cl (fl lc ls) ∧ Nw w8 wr) (fun _ _ i _ => j - (intOf i).toNat)
        case atStart => exact ⟨0, 0, 0, none, false, [], Nat.zero_le _, rfl, rfl, rfl, Mixed.zero, Own.nil, Nw.refl _⟩
        case round =>
          obtain ⟨i, nl, cl, L, sm, ls, hij, rfl, rfl, rfl, hmx, hal, hnw⟩ := hrel
          have hbo := BX8.out.nw hnw
          have hk4 := hbo.cell 4
          by_cases hlt : i < j
          · have hij2 : (i : Int) < (j : Int) := by omega
            obtain ⟨z, hz⟩ : ∃ z, mL[i]? = some z := ⟨_, List.getElem?_eq_getElem (show i < mL.length by rw [HLN.out]; exact hlt)⟩
            have hc0 : wr.cell? ⟨r, i * 3, none⟩ = some (.int .i64 z.id) := (S8.out.nw hnw).atL mc_len (by decide) hz 0 _ rfl
            have hnl : nl ≤ i := by have h1 := hal.lenL lc_len (by decide); have h2 := hmx.len; omega
            have AL := Lib.hid hal; have NR := Lib.hid hnw; have MX := Lib.hid hmx; have HZ := Lib.hid hz; have BXR := Lib.hid hbo
            clear hal hz hbo hmx
            rcases (show i = i1 ∨ i ≠ i1 by omega) with e | e
            · have d1 : (i == i1) = true := by simp; omega
              have d2 : ((i : Int) == (i1 : Int)) = true := by simp; omega
              have HE := Lib.hid e
              clear e
              go_wp2
              go_roundw
              case rel => exact ⟨i + 1, nl, cl, L, sm, ls, by omega, by go_num, rfl, rfl, MX.out.skip HZ.out HE.out, AL.out, NR.out⟩
              case measure => simp only [intOf]; omega
            have d1 : (i == i1) = false := by simp; omega
            have d2 : ((i : Int) == (i1 : Int)) = false := by simp; omega
            have HNE := Lib.hid e
            clear e
            go_upto_region 20 with (first | (refine wpList_load_obj 24 _ rfl rfl rfl BXR.out _ Try.underlying24 rfl (by kernel_rfl) ?_))
            have XB := Obj1.new wr 24 #[.int .i64 a, .int .i64 g, .int .i64 m, .int .i64 b, .slice (some ⟨r, 0, none⟩) j c2]
            have gX := World.grownBy_alloc wr (.cells #[.int .i64 a, .int .i64 g, .int .i64 m, .int .i64 b, .slice (some ⟨r, 0, none⟩) j c2] 24) none
            obtain ⟨V1, hV1⟩ : ∃ V, wr.alloc (.cells #[.int .i64 a, .int .i64 g, .int .i64 m, .int .i64 b, .slice (some ⟨r, 0, none⟩) j c2] 24) = V := ⟨_, rfl⟩
            obtain ⟨xb, hxb⟩ : ∃ xb, wr.heap.size = xb := ⟨_, rfl⟩
            rw [hV1] at XB gX
            rw [hxb] at XB
            rw [hV1, hxb]
            have hxw : wr.heap.size ≤ xb := by omega
            have kc1 : V1.cell? ⟨r, i * 3, none⟩ = some (.int .i64 z.id) := (S8.out.nw (gb_trans hnw gX)).atL mc_len (by decide) HZ.out 0 _ rfl
            have kk1 : V1.cell? ⟨y, 4, none⟩ = some (.slice (some ⟨r, 0, none⟩) j c2) := (BX8.out.nw (gb_trans hnw gX)).cell 4
            have OBV := Lib.hid (OB8.out.nw (gb_trans hnw gX)); have XV := Lib.hid XB; have GXV := Lib.hid gX
            clear hV1 hxb XB gX
            obtain ⟨bb, hbb⟩ : ∃ bb, (bits BinOp.and IntKind.i64 (q / 2 ^ i) 1 == 1) = bb := ⟨_, rfl⟩
            rcases bb with _ | _
            case true =>
              go_upto_region 21 with fail
              go_upto_region 23 with (first
                | (refine wpList_store_obj 24 _ _ rfl rfl [.int .i64 a, .int .i64 (g + 1), .int .i64 m, .int .i64 b, .slice (some ⟨r5, 0, none⟩) j c5] rfl rfl rfl (by kernel_rfl) (lc_one1 _ _ _ _ _ _ _) XV.out rfl ?_; intro V2 s1 s2)
                | (refine wpList_load_obj 24 _ rfl rfl rfl OBV.out _ Try.underlying24 rfl (by kernel_rfl) ?_))
              have n2 : Nw wr V2 := nw_of_gb GXV.out s2 (fun r hr => by injection hr with hr; omega)
              have X2 := Lib.hid s1; have NV2 := Lib.hid n2
              have kc0 : V2.cell? ⟨r, i * 3, none⟩ = some (.int .i64 z.id) := (S8.out.nw (gb_trans hnw n2)).atL mc_len (by decide) HZ.out 0 _ rfl
              have kk4 : V2.cell? ⟨y, 4, none⟩ = some (.slice (some ⟨r, 0, none⟩) j c2) := (BX8.out.nw (gb_trans hnw n2)).cell 4
              clear s1 s2 n2 kc1 kk1
              have fx2 := X2.out.frozen 2
              have cx2 := X2.out.cell 2
              have gS : V2.grownBy (V2.setCell ⟨xb, 2, none⟩ (.int .i64 z.id)) (some xb) := gb_set (gb_nw (Nw.refl V2)) (.inl rfl) _
              have X3 : Obj1 (V2.setCell ⟨xb, 2, none⟩ (.int .i64 z.id)) xb 24 #[.int .i64 a, .int .i64 (g + 1), .int .i64 z.id, .int .i64 b, .slice (some ⟨r5, 0, none⟩) j c5] := X2.out.set 2 _
              go_upto_region 24 with fail
              obtain ⟨V3, hV3⟩ : ∃ V, V2.setCell ⟨xb, 2, none⟩ (.int .i64 z.id) = V := ⟨_, rfl⟩
              rw [hV3] at gS X3
              rw [hV3]
              have n3 : Nw wr V3 := nw_of_gb NV2.out gS (fun r hr => by injection hr with hr; omega)
              have X3' := Lib.hid X3; have ALV := Lib.hid (AL.out.nw n3); have NRV := Lib.hid (gb_trans NR.out n3)
              have hys : w8.heap.size ≤ V3.heap.size := NRV.out.size
              have hlr := lc_one1 a (g + 1) z.id b (some ⟨r5, 0, none⟩) j c5
              have hyq := ALV.out.blk
              clear fx2 cx2 gS X3 n3 X2 NV2 hV3 kc0 kk4 AL NR hk4 hc0 hnw
              go_wp2_with (first
                | (at_builtin; refine wpList_appN_own T33 (cs := [Value.int .i64 a, .int .i64 (g + 1), .int .i64 z.id, .int .i64 b, .slice (some ⟨r5, 0, none⟩) j c5]) _ _ rfl rfl rfl rfl ALV.out rfl hlr (by unfold maxLen; omega) hys ?_; intro A8 c8 w8' o8 g8 _)
                | (refine wpList_load_obj 24 _ rfl rfl rfl X3'.out _ Try.underlying24 rfl (by kernel_rfl) ?_))
              go_roundw
              case rel => exact ⟨i + 1, nl + 1, c8, A8, true, ls ++ [withM ⟨a, g + 1, m, b, some ⟨r5, 0, none⟩, j, c5, mN⟩ z], by omega, by go_num, rfl, rfl, MX.out.take HZ.out HNE.out, by rw [fl_app]; simpa [fl, HLY.out z] using o8, nw_of_gb NRV.out g8 hyq⟩
              case measure => simp only [intOf]; omega
            rcases sm with _ | _
            case true =>
              have HO := Lib.hid (show true = false → i + 2 < j from fun h => by cases h)
              go_upto_region 23 with fail
              have X2 := XV; have NV2 := GXV
              obtain ⟨V2, hV2⟩ : ∃ V, V1 = V := ⟨_, rfl⟩
              rw [hV2] at X2 NV2 kc1 kk1 ⊢
              have kc0 := kc1; have kk4 := kk1
              have fx2 := X2.out.frozen 2
              have cx2 := X2.out.cell 2
              have gS : V2.grownBy (V2.setCell ⟨xb, 2, none⟩ (.int .i64 z.id)) (some xb) := gb_set (gb_nw (Nw.refl V2)) (.inl rfl) _
              have X3 : Obj1 (V2.setCell ⟨xb, 2, none⟩ (.int .i64 z.id)) xb 24 #[.int .i64 a, .int .i64 g, .int .i64 z.id, .int .i64 b, .slice (some ⟨r, 0, none⟩) j c2] := X2.out.set 2 _
              go_upto_region 24 with fail
              obtain ⟨V3, hV3⟩ : ∃ V, V2.setCell ⟨xb, 2, none⟩ (.int .i64 z.id) = V := ⟨_, rfl⟩
              rw [hV3] at gS X3
              rw [hV3]
              have n3 : Nw wr V3 := nw_of_gb NV2.out gS (fun r hr => by injection hr with hr; omega)
              have X3' := Lib.hid X3; have ALV := Lib.hid (AL.out.nw n3); have NRV := Lib.hid (gb_trans NR.out n3)
              have hys : w8.heap.size ≤ V3.heap.size := NRV.out.size
              have hlr := lc_one1 a g z.id b (some ⟨r, 0, none⟩) j c2
              have hyq := ALV.out.blk
              clear fx2 cx2 gS X3 n3 X2 NV2 hV3 kc0 kk4 AL NR hk4 hc0 hnw
              go_wp2_with (first
                | (at_builtin; refine wpList_appN_own T33 (cs := [Value.int .i64 a, .int .i64 g, .int .i64 z.id, .int .i64 b, .slice (some ⟨r, 0, none⟩) j c2]) _ _ rfl rfl rfl rfl ALV.out rfl hlr (by unfold maxLen; omega) hys ?_; intro A8 c8 w8' o8 g8 _)
                | (refine wpList_load_obj 24 _ rfl rfl rfl X3'.out _ Try.underlying24 rfl (by kernel_rfl) ?_))
              go_roundw
              case rel => exact ⟨i + 1, nl + 1, c8, A8, true, ls ++ [withM ⟨a, g, m, b, some ⟨r, 0, none⟩, j, c2, mL⟩ z], by omega, by go_num, rfl, rfl, MX.out.keep HZ.out HNE.out HO.out, by rw [fl_app]; simpa [fl, HLX.out z] using o8, nw_of_gb NRV.out g8 hyq⟩
              case measure => simp only [intOf]; omega
            rcases (show (j : Int) - 2 ≤ (i : Int) ∨ (i : Int) < (j : Int) - 2 by omega) with hge | hge
            · have d3 : decide ((j : Int) - 2 ≤ (i : Int)) = true := by simp; omega
              go_upto_region 21 with fail
              go_upto_region 23 with (first
                | (refine wpList_store_obj 24 _ _ rfl rfl [.int .i64 a, .int .i64 (g + 1), .int .i64 m, .int .i64 b, .slice (some ⟨r5, 0, none⟩) j c5] rfl rfl rfl (by kernel_rfl) (lc_one1 _ _ _ _ _ _ _) XV.out rfl ?_; intro V2 s1 s2)
                | (refine wpList_load_obj 24 _ rfl rfl rfl OBV.out _ Try.underlying24 rfl (by kernel_rfl) ?_))
              have n2 : Nw wr V2 := nw_of_gb GXV.out s2 (fun r hr => by injection hr with hr; omega)
              have X2 := Lib.hid s1; have NV2 := Lib.hid n2
              have kc0 : V2.cell? ⟨r, i * 3, none⟩ = some (.int .i64 z.id) := (S8.out.nw (gb_trans hnw n2)).atL mc_len (by decide) HZ.out 0 _ rfl
              have kk4 : V2.cell? ⟨y, 4, none⟩ = some (.slice (some ⟨r, 0, none⟩) j c2) := (BX8.out.nw (gb_trans hnw n2)).cell 4
              clear s1 s2 n2 kc1 kk1
              have fx2 := X2.out.frozen 2
              have cx2 := X2.out.cell 2
              have gS : V2.grownBy (V2.setCell ⟨xb, 2, none⟩ (.int .i64 z.id)) (some xb) := gb_set (gb_nw (Nw.refl V2)) (.inl rfl) _
              have X3 : Obj1 (V2.setCell ⟨xb, 2, none⟩ (.int .i64 z.id)) xb 24 #[.int .i64 a, .int .i64 (g + 1), .int .i64 z.id, .int .i64 b, .slice (some ⟨r5, 0, none⟩) j c5] := X2.out.set 2 _
              go_upto_region 24 with fail
              obtain ⟨V3, hV3⟩ : ∃ V, V2.setCell ⟨xb, 2, none⟩ (.int .i64 z.id) = V := ⟨_, rfl⟩
              rw [hV3] at gS X3
              rw [hV3]
              have n3 : Nw wr V3 := nw_of_gb NV2.out gS (fun r hr => by injection hr with hr; omega)
              have X3' := Lib.hid X3; have ALV := Lib.hid (AL.out.nw n3); have NRV := Lib.hid (gb_trans NR.out n3)
              have hys : w8.heap.size ≤ V3.heap.size := NRV.out.size
              have hlr := lc_one1 a (g + 1) z.id b (some ⟨r5, 0, none⟩) j c5
              have hyq := ALV.out.blk
              clear fx2 cx2 gS X3 n3 X2 NV2 hV3 kc0 kk4 AL NR hk4 hc0 hnw
              go_wp2_with (first
                | (at_builtin; refine wpList_appN_own T33 (cs := [Value.int .i64 a, .int .i64 (g + 1), .int .i64 z.id, .int .i64 b, .slice (some ⟨r5, 0, none⟩) j c5]) _ _ rfl rfl rfl rfl ALV.out rfl hlr (by unfold maxLen; omega) hys ?_; intro A8 c8 w8' o8 g8 _)
                | (refine wpList_load_obj 24 _ rfl rfl rfl X3'.out _ Try.underlying24 rfl (by kernel_rfl) ?_))
              go_roundw
              case rel => exact ⟨i + 1, nl + 1, c8, A8, true, ls ++ [withM ⟨a, g + 1, m, b, some ⟨r5, 0, none⟩, j, c5, mN⟩ z], by omega, by go_num, rfl, rfl, MX.out.take HZ.out HNE.out, by rw [fl_app]; simpa [fl, HLY.out z] using o8, nw_of_gb NRV.out g8 hyq⟩
              case measure => simp only [intOf]; omega
            · have d3 : decide ((j : Int) - 2 ≤ (i : Int)) = false := by simp; omega
              have HO := Lib.hid (show false = false → i + 2 < j from fun _ => by omega)
              clear hge
              go_upto_region 23 with fail
              have X2 := XV; have NV2 := GXV
              obtain ⟨V2, hV2⟩ : ∃ V, V1 = V := ⟨_, rfl⟩
              rw [hV2] at X2 NV2 kc1 kk1 ⊢
              have kc0 := kc1; have kk4 := kk1
              have fx2 := X2.out.frozen 2
              have cx2 := X2.out.cell 2
              have gS : V2.grownBy (V2.setCell ⟨xb, 2, none⟩ (.int .i64 z.id)) (some xb) := gb_set (gb_nw (Nw.refl V2)) (.inl rfl) _
              have X3 : Obj1 (V2.setCell ⟨xb, 2, none⟩ (.int .i64 z.id)) xb 24 #[.int .i64 a, .int .i64 g, .int .i64 z.id, .int .i64 b, .slice (some ⟨r, 0, none⟩) j c2] := X2.out.set 2 _
              go_upto_region 24 with fail
              obtain ⟨V3, hV3⟩ : ∃ V, V2.setCell ⟨xb, 2, none⟩ (.int .i64 z.id) = V := ⟨_, rfl⟩
              rw [hV3] at gS X3
              rw [hV3]
              have n3 : Nw wr V3 := nw_of_gb NV2.out gS (fun r hr => by injection hr with hr; omega)
              have X3' := Lib.hid X3; have ALV := Lib.hid (AL.out.nw n3); have NRV := Lib.hid (gb_trans NR.out n3)
              have hys : w8.heap.size ≤ V3.heap.size := NRV.out.size
              have hlr := lc_one1 a g z.id b (some ⟨r, 0, none⟩) j c2
              have hyq := ALV.out.blk
              clear fx2 cx2 gS X3 n3 X2 NV2 hV3 kc0 kk4 AL NR hk4 hc0 hnw
              go_wp2_with (first
                | (at_builtin; refine wpList_appN_own T33 (cs := [Value.int .i64 a, .int .i64 g, .int .i64 z.id, .int .i64 b, .slice (some ⟨r, 0, none⟩) j c2]) _ _ rfl rfl rfl rfl ALV.out rfl hlr (by unfold maxLen; omega) hys ?_; intro A8 c8 w8' o8 g8 _)
                | (refine wpList_load_obj 24 _ rfl rfl rfl X3'.out _ Try.underlying24 rfl (by kernel_rfl) ?_))
              go_roundw
              case rel => exact ⟨i + 1, nl + 1, c8, A8, false, ls ++ [withM ⟨a, g, m, b, some ⟨r, 0, none⟩, j, c2, mL⟩ z], by omega, by go_num, rfl, rfl, MX.out.keep HZ.out HNE.out HO.out, by rw [fl_app]; simpa [fl, HLX.out z] using o8, nw_of_gb NRV.out g8 hyq⟩
              case measure => simp only [intOf]; omega
          · have hie : i = j := by omega
            subst hie
            have hij2 : decide ((i : Int) < (i : Int)) = false := by simp
            have AL := Lib.hid hal; have NR := Lib.hid hnw
            clear hal hbo
            go_upto_region 25 with fail
            have hmi := hmx
            have hni : mL.length = i := HLN.out
            have hsm : sm = true := hmi.some_ hj3
            have hpp := choose_mixed hmi hj3 hni HQ1.out HRR.out HRN.out rfl HMN.out rfl rfl
            have hnl : ls.length = nl := AL.out.lenL lc_len (by decide)
            have hnl2 : nl ≤ i := by rw [← hnl]; exact hmi.len
            have SN := S8.out.nw NR.out; have RN := R8.out.nw NR.out
            have HCH := choose_any (c := cl) AL.out.rd (by
              intro z hz
              rcases hmi.el z hz with ⟨q, _, rfl⟩ | ⟨q, _, rfl⟩
              · exact ⟨SN.rd, SN.cap.1, SN.cap.2⟩
              · exact ⟨RN.rd, RN.cap.1, RN.cap.2⟩) (Nat.le_refl _) (by omega) (by
              intro z hz
              rcases hmi.el z hz with ⟨q, _, rfl⟩ | ⟨q, _, rfl⟩
              · show i ≤ 1000000
                omega
              · show i ≤ 1000000
                omega)
            unfold ChoosePost l0 lv at HCH
            have HQ : Calls Try.prog 12 #[.slice L nl cl] wr (fun e w' => Nw wr w' ∧ ∃ A6 n6 c6 M6 d6 m6, e = .returned (.tuple #[.agg #[.int .i64 a, .int .i64 (g + 1), .int .i64 m6, .int .i64 b, .slice A6 n6 c6], .slice M6 0 d6, .int .i64 0]) ∧ Own w' wr.heap.size 28 3 A6 n6 c6 (fl mc mN)) := by
              refine HCH.mono ?_
              obtain ⟨h1', ⟨q, h2⟩, h3, h4⟩ := hpp
              rw [h4, h1', h2, h3 q]
              rintro e w' ⟨k, hp⟩
              rcases hp with ⟨h, _⟩ | ⟨_, A6, n6, c6, M, k6, d6, rfl, p1, p2⟩
              · exact absurd rfl h
              have hk : 0 = k6 := by have := p2.len; rw [Nat.mul_one] at this; exact this
              subst hk
              exact ⟨k, A6, n6, c6, M, d6, _, rfl, p1⟩
            have HQ' := Lib.hid HQ
            have hmN : mN.length = i := by rw [HMN.out, List.length_set]; exact hni
            clear HQ HCH hpp hnl2 hnl hij2 hk4 SN RN hmi hmx
            go_upto_region 26 with ((with_reducible refine HQ'.out.mono ?_); rintro e w9 ⟨k9, A6, n6, c6, M6, d6, m6, rfl, o9⟩)
            have gZ := World.grownBy_alloc w9 (.cells #[.int .i64 a, .int .i64 (g + 1), .int .i64 m6, .int .i64 b, .slice A6 n6 c6] 24) none
            have xz := Obj1.new w9 24 #[.int .i64 a, .int .i64 (g + 1), .int .i64 m6, .int .i64 b, .slice A6 n6 c6]
            obtain ⟨Z, hZ⟩ : ∃ Z, w9.alloc (.cells #[.int .i64 a, .int .i64 (g + 1), .int .i64 m6, .int .i64 b, .slice A6 n6 c6] 24) = Z := ⟨_, rfl⟩
            obtain ⟨z, hz⟩ : ∃ z, w9.heap.size = z := ⟨_, rfl⟩
            rw [hZ] at gZ xz
            rw [hz] at xz ⊢
            rw [hZ]
            have K8 := gb_trans NR.out (gb_trans k9 gZ)
            have hwz : wr.heap.size ≤ z := by have := k9.size; omega
            have n6i : n6 = i := by have h := o9.lenL mc_len (by decide); omega
            subst n6i
            have hx2 := (OB8.out.nw K8).cell 2
            have fz2 := xz.frozen 2
            have cz2 := xz.cell 2
            have gS : Z.grownBy (Z.setCell ⟨z, 2, none⟩ (.int .i64 m)) (some z) := gb_set (gb_nw (Nw.refl Z)) (.inl rfl) _
            have X3 : Obj1 (Z.setCell ⟨z, 2, none⟩ (.int .i64 m)) z 24 #[.int .i64 a, .int .i64 (g + 1), .int .i64 m, .int .i64 b, .slice A6 n6 c6] := xz.set 2 _
            go_upto_region 27 with fail
            obtain ⟨Z2, hZ2⟩ : ∃ V, Z.setCell ⟨z, 2, none⟩ (.int .i64 m) = V := ⟨_, rfl⟩
            rw [hZ2] at gS X3
            rw [hZ2]
            have n3 : Nw wr Z2 := nw_of_gb (gb_trans k9 gZ) gS (fun r hr => by injection hr with hr; omega)
            have XZ := Lib.hid X3
            have O9 := (o9.nw gZ).kept gS (fun r hr e => by injection hr with hr; subst hr; obtain ⟨cur, ho⟩ := (o9.nw gZ).rowObj _ e; exact ho.ne xz (by decide) rfl)
            have R9 := (R8.out.nw NR.out).nw n3
            have OB9 := Lib.hid ((OB8.out.nw NR.out).nw n3)
            have HSM := rsame_any (w := Z2) (x := ⟨a, g + 1, m, b, A6, n6, c6, mN⟩) (y := ⟨a, g + 1, m, b, some ⟨r5, 0, none⟩, n6, c5, mN⟩) ⟨O9.rd, O9.cap.1, O9.cap.2⟩ ⟨R9.rd, R9.cap.1, R9.cap.2⟩ (Nat.le_refl _) (Nat.le_refl _) (by simp only; omega) (by simp only; omega)
            have hsl : sameL ⟨a, g + 1, m, b, A6, n6, c6, mN⟩ ⟨a, g + 1, m, b, some ⟨r5, 0, none⟩, n6, c5, mN⟩ = true := by unfold sameL eqM; simp
            rw [hsl] at HSM
            unfold Ret lv at HSM
            have HS' := Lib.hid HSM
            have NZ := Lib.hid (gb_trans N8.out (gb_trans NR.out n3))
            subst hsm
            clear hZ hz xz gZ k9 o9 K8 HQ' hnw hx2 fz2 cz2 gS X3 n3 hZ2 O9 R9 HSM hsl
            go_wp2_with (first
              | ((with_reducible refine HS'.out.mono ?_); rintro e w10 ⟨rfl, k10⟩)
              | (refine wpList_load_obj 24 _ rfl rfl rfl OB9.out _ Try.underlying24 rfl (by kernel_rfl) ?_)
              | (refine wpList_load_obj 24 _ rfl rfl rfl XZ.out _ Try.underlying24 rfl (by kernel_rfl) ?_))
            go_ret
            exact ⟨rfl, gb_trans NZ.out k10⟩
theorem newer_all {w : World} (x : Lb) (h : LIn w x) (p : Int) (hp : -9223372036854775808 ≤ p ∧ p ≤ 9223372036854775807) (q : Int) (hq : -9223372036854775808 ≤ q ∧ q ≤ 9223372036854775807) : Calls Try.prog 3 #[lv x, .int .i64 p, .int .i64 q] w (Ret (.bool true) w) := newer_walk h (Nat.le_refl _) p q hp hq
end Go.Proofs.Ytkkkhkkjdjnfhaa

