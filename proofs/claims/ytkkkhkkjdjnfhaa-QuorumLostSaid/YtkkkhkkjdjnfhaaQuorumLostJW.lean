/- The walk of QuorumLost. -/
import Derived.Test.YtkkkhkkjdjnfhaaJH
set_option linter.unusedVariables false
set_option linter.unusedSimpArgs false
namespace Go.Proofs.Ytkkkhkkjdjnfhaa
open Go.RowKit Go.BW

set_option maxRecDepth 100000 in
set_option maxHeartbeats 8000000 in
theorem lost_walk {w : World} {B : Nat} {x : Lb} (h : LOk w B x) (hB : B ≤ w.heap.size) (p q : Int) (hp : -9223372036854775808 ≤ p ∧ p ≤ 9223372036854775807) (hq : -9223372036854775808 ≤ q ∧ q ≤ 9223372036854775807) : Calls Try.prog 4 #[lv x, .int .i64 p, .int .i64 q] w (Ret (.bool true) w) := by
  have hbx := Obj1.new w 24 #[.int .i64 x.a, .int .i64 x.g, .int .i64 x.m, .int .i64 x.b, .slice x.A x.n x.c]
  have hg0 := World.grownBy_alloc w (.cells #[.int .i64 x.a, .int .i64 x.g, .int .i64 x.m, .int .i64 x.b, .slice x.A x.n x.c] 24) none
  have HS := Lib.hid shown_any
  unfold Ret at HS
  have HC := Lib.hid (fun w' (k : Nw w w') => cut_any (h.nw k hB) (Nat.le_trans hB k.size))
  unfold CutPost at HC
  unfold lv at HC ⊢
  obtain ⟨a, g, m, b, A, n, c, ms0⟩ := x
  simp only at HC hbx hg0 ⊢
  obtain ⟨ms, hms⟩ : ∃ ms, ms0.take 20 = ms := ⟨_, rfl⟩
  have hml : ms.length ≤ 20 := by rw [← hms, List.length_take]; omega
  rw [hms] at HC
  obtain ⟨V, hV⟩ : ∃ V, w.alloc (.cells #[.int .i64 a, .int .i64 g, .int .i64 m, .int .i64 b, .slice A n c] 24) = V := ⟨_, rfl⟩
  obtain ⟨y, hy⟩ : ∃ y, w.heap.size = y := ⟨_, rfl⟩
  rw [hV] at hbx hg0
  rw [hy] at hbx
  have hyw : w.heap.size ≤ y := by omega
  have hyV := hbx.lt
  have OB := Lib.hid hbx; have N0 := Lib.hid hg0
  clear hms h
  go_enter Try.func4, Try.ntmps4
  go_upto_region 3 with (first
    | (refine wpList_store_obj 24 _ _ rfl rfl [.int .i64 a, .int .i64 g, .int .i64 m, .int .i64 b, .slice A2 n2 c2] rfl rfl rfl (by kernel_rfl) (lc_one1 a g m b A2 n2 c2) (OB1.out.nw k2) rfl ?_; intro w3 s1 s2)
    | ((with_reducible refine (HC.out _ N1.out).mono ?_); rintro e w2 ⟨A2, n2, c2, rfl, o2, k2⟩)
    | (refine wpList_load_obj 24 _ rfl rfl rfl OB1.out _ Try.underlying24 rfl (by kernel_rfl) ?_)
    | ((with_reducible refine (HS.out _).mono ?_); rintro e w1 ⟨rfl, k1⟩; have OB1 := Lib.hid (OB.out.nw k1); have N1 := Lib.hid (gb_trans N0.out k1)))
  have o3 := o2.kept s2 (fun r hr e => by injection hr with hr; subst hr; obtain ⟨cur, ho⟩ := o2.rowObj _ e; exact ho.ne (OB1.out.nw k2) (by decide) rfl)
  have n3 := nw_of_gb (gb_trans N1.out k2) s2 (fun r hr => by injection hr with hr; omega)
  have hn2 : n2 = ms.length := (o2.lenL mc_len (by decide)).symm
  have hn20 : n2 ≤ 20 := by omega
  have hbs : w.heap.size ≤ w1.heap.size := N1.out.size
  have O3 := Lib.hid (o3.more hbs); have N3 := Lib.hid n3; have B3 := Lib.hid s1
  have HL := Lib.hid hn2
  clear o2 o3 n3 s1 s2 k1 k2 HC OB OB1 N0 N1 hbs hn2
  go_wp2_with fail
  go_loopw [8] (fun i wr => ∃ (j : Nat), j ≤ n2 ∧ i = .int .i64 j ∧ Own wr w.heap.size 28 3 A2 n2 c2 (fl mc (liveTo ms j)) ∧ Obj1 wr y 24 #[.int .i64 a, .int .i64 g, .int .i64 m, .int .i64 b, .slice A2 n2 c2] ∧ Nw w wr) (fun i _ => n2 - (intOf i).toNat)
  case atStart => exact ⟨0, Nat.zero_le _, rfl, by rw [liveTo_zero]; exact O3.out, B3.out, N3.out⟩
  case round =>
    obtain ⟨j, hj, rfl, hown, hbox, hnw⟩ := hrel
    by_cases hlt : j < n2
    · have hjn : (j : Int) < (n2 : Int) := by omega
      obtain ⟨r, rfl, hr⟩ := hown.some_ (by omega)
      obtain ⟨⟨u, hu, hf⟩, hs, hgb⟩ := live_step hown hlt
      obtain ⟨cur, hro⟩ := hown.obj
      have hne : y ≠ r := hbox.ne hro (by decide)
      have hk4 := hbox.cell 4
      have S := Lib.hid hs; have G := Lib.hid hgb; have BX := Lib.hid hbox; have NR := Lib.hid hnw
      clear hs hgb hown hbox hro hnw
      go_wp2
      go_roundw
      case rel => exact ⟨j + 1, by omega, by go_num, S.out, BX.out.chg (Chg.of_gb (F := [r]) G.out (by intro q hq; injection hq with hq; simp [hq])) (by simpa using hne), nw_of_gb NR.out G.out (fun q hq => by injection hq with hq; omega)⟩
      case measure => simp only [intOf]; omega
    · have hje : j = n2 := by omega
      subst hje
      have hjn : decide ((j : Int) < (j : Int)) = false := by simp
      rw [liveTo_all (by rw [HL.out]; exact Nat.le_refl _)] at hown
      have hk4 := hbox.cell 4
      have S := Lib.hid hown; have BX := Lib.hid hbox; have NR := Lib.hid hnw
      clear hown hbox hnw
      go_upto_region 7 with fail
      have hok : LOk wr wr.heap.size ⟨a, g, m, b, A2, j, c2, ms.map live⟩ := ⟨S.out.rd, S.out.cap.1, S.out.cap.2⟩
      have HR := Lib.hid (right_any hok (Nat.le_refl _) (by simp only; omega))
      unfold lv Ret at HR
      simp only at HR
      obtain ⟨mL, hmL⟩ : ∃ mL, ms.map live = mL := ⟨_, rfl⟩
      have HML := Lib.hid (show mL = ms.map live from hmL.symm)
      rw [hmL] at HR S hok
      obtain ⟨R, hRR⟩ : ∃ R, rightB ⟨a, g, m, b, A2, j, c2, mL⟩ = R := ⟨_, rfl⟩
      rw [hRR] at HR
      have HRR := Lib.hid hRR
      clear hok hRR
      have k1 := BX.out.cell 1
      rcases R with _ | _
      · go_wp2_with (first | ((with_reducible refine HR.out.mono ?_); rintro e w4 ⟨rfl, k4⟩; have BX4 := Lib.hid (BX.out.nw k4); have S4 := Lib.hid (S.out.nw k4); have N4 := Lib.hid (gb_trans NR.out k4)) | (refine wpList_load_obj 24 _ rfl rfl rfl BX.out _ Try.underlying24 rfl (by kernel_rfl) ?_))
        go_ret
        exact ⟨rfl, N4.out⟩
      have hgm : True := trivial
      rcases (show 2147483648 < g ∨ g ≤ 2147483648 by omega) with hg | hg
      · have k1b : ∀ w', Nw wr w' → w'.cell? ⟨y, 1, none⟩ = some (.int .i64 g) := fun w' k => (BX.out.nw k).cell 1
        go_wp2_with (first | ((with_reducible refine HR.out.mono ?_); rintro e w4 ⟨rfl, k4⟩; have N4 := Lib.hid (gb_trans NR.out k4); have kg := k1b w4 k4) | (refine wpList_load_obj 24 _ rfl rfl rfl BX.out _ Try.underlying24 rfl (by kernel_rfl) ?_))
        go_ret
        exact ⟨rfl, N4.out⟩
      have hgd : decide (2147483648 < g) = false := by simp; omega
      have hj3 := (right_parts HRR.out).1
      have hj12 := (right_parts HRR.out).2.1
      simp only at hj3 hj12
      have hjz : ¬ ((j : Int) = 0) := by omega
      obtain ⟨pm, i1, hpm, hpi, hi1⟩ := place p (show 0 < j by omega)
      obtain ⟨qm, kk, hqm, hqi, hkk⟩ := place q (show 0 < j by omega)
      go_upto_region 9 with (first | ((with_reducible refine HR.out.mono ?_); rintro e w4 ⟨rfl, k4⟩; have BX4 := Lib.hid (BX.out.nw k4); have S4 := Lib.hid (S.out.nw k4); have N4 := Lib.hid (gb_trans NR.out k4); have kg := BX4.out.cell 1; have kg4 := BX4.out.cell 4) | (refine wpList_load_obj 24 _ rfl rfl rfl BX.out _ Try.underlying24 rfl (by kernel_rfl) ?_))
      have hln : mL.length = j := S4.out.lenL mc_len (by decide)
      have hlive : ∀ z ∈ mL, z.st = 0 := by intro z hz; rw [HML.out, List.mem_map] at hz; obtain ⟨z', _, rfl⟩ := hz; rfl
      obtain ⟨q1, hq1⟩ : ∃ z, mL[i1]? = some z := ⟨_, List.getElem?_eq_getElem (show i1 < mL.length by omega)⟩
      obtain ⟨q2, hq2⟩ : ∃ z, mL[kk]? = some z := ⟨_, List.getElem?_eq_getElem (show kk < mL.length by omega)⟩
      obtain ⟨r, rfl, hr⟩ := S4.out.some_ (by omega)
      have hok4 : LOk w4 w4.heap.size ⟨a, g, m, b, some ⟨r, 0, none⟩, j, c2, mL⟩ := ⟨S4.out.rd, S4.out.cap.1, S4.out.cap.2⟩
      have hlo := fun (w' : World) (k : Nw w4 w') => lost_live (x := ⟨a, g, m, b, some ⟨r, 0, none⟩, j, c2, mL⟩) (q := q1) (hok4.nw k (Nat.le_refl _)) k.size (by simp only; omega) HRR.out hlive (by simp only; omega) hq1
      have h33 := fun (w' : World) (k : Nw w4 w') => lost_fail (hok4.nw k (Nat.le_refl _)) k.size (by simp only; omega) (lostE_33 HRR.out) (by decide)
      have hag := fun A c => lostE_again (A := A) (c := c) HRR.out hlive (by simp only; omega) hq1 hq2
      simp only at hlo h33 hag
      have HLO := Lib.hid hlo; have H33 := Lib.hid h33; have HAG := Lib.hid hag; have HQ1 := Lib.hid hq1; have HQ2 := Lib.hid hq2; have HOK := Lib.hid hok4
      have hc4 : ∀ w', Nw w4 w' → w'.cell? ⟨y, 4, none⟩ = some (.slice (some ⟨r, 0, none⟩) j c2) := fun w' k => (BX4.out.nw k).cell 4
      have hci : ∀ w', Nw w4 w' → w'.cell? ⟨r, i1 * 3, none⟩ = some (.int .i64 q1.id) := fun w' k => (S4.out.nw k).atL mc_len (by decide) hq1 0 _ rfl
      have hck : ∀ w', Nw w4 w' → w'.cell? ⟨r, kk * 3, none⟩ = some (.int .i64 q2.id) := fun w' k => (S4.out.nw k).atL mc_len (by decide) hq2 0 _ rfl
      have HC4 := Lib.hid hc4; have HCI := Lib.hid hci; have HCK := Lib.hid hck
      clear hlo h33 hag hq1 hq2 hok4 hc4 hci hck hlive HR BX S NR kg k4
      go_upto_region 11 with fail
      go_cut [11, 12] (fun x e wx => ∃ (x5 r5 c5 : Nat), x = .pointer (some ⟨x5, 0, none⟩) ∧ e = .int .i64 0 ∧ Obj1 wx x5 24 #[.int .i64 a, .int .i64 (g + 1), .int .i64 m, .int .i64 b, .slice (some ⟨r5, 0, none⟩) j c5] ∧ Own wx w.heap.size 28 3 (some ⟨r5, 0, none⟩) j c5 (fl mc (mL.set i1 (failed q1))) ∧ Nw w4 wx)
      case first =>
        have hc4 := HC4.out; have hci := HCI.out
        refine wp_region_held (S := (fun w' => Nw w4 w')) (by kernel_rfl) ?_
        change wpAnyH _ _ _ _ _ _ _ _ (World.drew w4)
        refine held_seg' (l := [0, 1, 2, 3, 4, 5, 6]) (fuel := 7) rfl (by kernel_rfl) (by kernel_rfl) (by simp only [List.filterMap_cons, List.filterMap_nil, List.getElem?_toArray, List.getElem?_cons_succ, List.getElem?_cons_zero]; rfl) (fun _ _ d _ _ h => by cases d <;> exact h) (gb_drew (Nw.refl w4)) ?_
        refine wpYield_load_agg 24 _ rfl rfl rfl [.int .i64 a, .int .i64 g, .int .i64 m, .int .i64 b, .slice (some ⟨r, 0, none⟩) j c2] (fun w' hw' => load_of (BX4.out.nw hw')) _ Try.underlying24 rfl (by kernel_rfl) ?_
        iterate 6 (refine wpYield_step rfl (fun K hK => ?_)
                   apply Exists.intro
                   refine ⟨fun w' hw' => ?_, ?_⟩
                   · (go_simp; try with_reducible rfl)
                   go_simp
                   refine hK _ ?_
                   clear hK K)
        refine wpYield_nil ?_
        have NB := Lib.hid (show Nw w4 w4.drew from gb_drew (Nw.refl w4))
        generalize w4.drew = wd at NB ⊢
        clear hc4 hci
        refine wpAnyH_all (rs := [7, 11]) (by kernel_rfl) (by simp) fun jj hjj => ?_
        simp only [List.mem_cons, List.not_mem_nil, or_false] at hjj
        rcases hjj with rfl | rfl
        · refine wpOp_take 7 rfl rfl (fun K hK => ?_)
          go_simp
          refine (HLO.out _ NB.out).mono ?_
          rintro e w5 ⟨k5, r5, c5, rfl, o5⟩
          have N5 := Lib.hid (gb_trans NB.out k5)
          have O5 := Lib.hid (o5.more (gb_trans N4.out NB.out).size)
          refine hK _ _ ⟨N5.out, ?_⟩
          clear hK K k5
          refine held_seg' (l := [8, 9, 10]) (fuel := 3) rfl (by kernel_rfl) (by kernel_rfl) (by simp only [List.filterMap_cons, List.filterMap_nil, List.getElem?_toArray, List.getElem?_cons_succ, List.getElem?_cons_zero]; rfl) (fun _ _ d _ _ h => by cases d <;> exact h) N5.out ?_
          iterate 3 (refine wpYield_step rfl (fun K hK => ?_)
                     apply Exists.intro
                     refine ⟨fun w' hw' => ?_, ?_⟩
                     · (go_simp; try with_reducible rfl)
                     go_simp
                     refine hK _ ?_
                     clear hK K)
          refine wpYield_nil ?_
          refine held_eff 11 rfl (by kernel_rfl) rfl (fun K hK => ?_)
          go_simp
          have XB := Obj1.new w5 24 #[.int .i64 0, .int .i64 0, .int .i64 0, .int .i64 0, .slice none 0 0]
          have GX := World.grownBy_alloc w5 (.cells #[.int .i64 0, .int .i64 0, .int .i64 0, .int .i64 0, .slice none 0 0] 24) none
          have hxl : w4.heap.size ≤ w5.heap.size := N5.out.size
          obtain ⟨V, hV⟩ : ∃ V, w5.alloc (.cells #[.int .i64 0, .int .i64 0, .int .i64 0, .int .i64 0, .slice none 0 0] 24) = V := ⟨_, rfl⟩
          obtain ⟨xx, hxx⟩ : ∃ x, w5.heap.size = x := ⟨_, rfl⟩
          rw [hV] at XB GX ⊢
          rw [hxx] at XB hxl ⊢
          have NV := Lib.hid (gb_trans N5.out GX); have XV := Lib.hid XB
          have O6 := Lib.hid (O5.out.nw GX)
          clear hV hxx XB GX
          refine hK _ _ ⟨NV.out, ?_⟩
          clear hK K
          refine held_eff 12 rfl (by kernel_rfl) rfl (fun K hK => ?_)
          refine wp_store_obj 24 _ _ rfl [.int .i64 a, .int .i64 (g + 1), .int .i64 m, .int .i64 b, .slice (some ⟨r5, 0, none⟩) j c5] rfl rfl rfl (by kernel_rfl) (lc_one1 _ _ _ _ _ _ _) XV.out rfl (fun w7 s1 s2 => ?_)
          have N7 := nw_of_gb NV.out s2 (fun r hr => by injection hr with hr; omega)
          have O7 := O6.out.kept s2 (fun r hr e => by injection hr with hr; subst hr; obtain ⟨cur, ho⟩ := O6.out.rowObj _ e; exact ho.ne XV.out (by decide) rfl)
          refine hK _ _ ⟨N7, ?_⟩
          clear hK K
          refine held_seg' (l := [13]) (fuel := 0) rfl (by kernel_rfl) (by kernel_rfl) (by simp only [List.filterMap_cons, List.filterMap_nil, List.getElem?_toArray, List.getElem?_cons_succ, List.getElem?_cons_zero]; rfl) (fun _ _ d _ _ h => by cases d <;> exact h) N7 ?_
          (refine wpYield_step rfl (fun K hK => ?_)
           apply Exists.intro
           refine ⟨fun w' hw' => ?_, ?_⟩
           · (go_simp; try with_reducible rfl)
           go_simp
           refine hK _ ?_
           clear hK K)
          refine wpYield_nil ?_
          refine wpAnyH_done (by kernel_rfl) ?_ _
          go_wp2
          go_meet
          exact ⟨xx, r5, c5, rfl, rfl, s1, O7, N7⟩
        · refine wpOp_take 11 rfl rfl (fun K hK => ?_)
          go_simp
          have XB := Obj1.new wd 24 #[.int .i64 0, .int .i64 0, .int .i64 0, .int .i64 0, .slice none 0 0]
          have GX := World.grownBy_alloc wd (.cells #[.int .i64 0, .int .i64 0, .int .i64 0, .int .i64 0, .slice none 0 0] 24) none
          have hxl : w4.heap.size ≤ wd.heap.size := NB.out.size
          obtain ⟨V, hV⟩ : ∃ V, wd.alloc (.cells #[.int .i64 0, .int .i64 0, .int .i64 0, .int .i64 0, .slice none 0 0] 24) = V := ⟨_, rfl⟩
          obtain ⟨xx, hxx⟩ : ∃ x, wd.heap.size = x := ⟨_, rfl⟩
          rw [hV] at XB GX ⊢
          rw [hxx] at XB hxl ⊢
          have NV := Lib.hid (gb_trans NB.out GX); have XV := Lib.hid XB
          clear hV hxx XB GX
          refine hK _ _ ⟨NV.out, ?_⟩
          clear hK K
          refine held_eff 7 rfl (by kernel_rfl) rfl (fun K hK => ?_)
          go_simp
          refine (HLO.out _ NV.out).mono ?_
          rintro e w5 ⟨k5, r5, c5, rfl, o5⟩
          have N5 := Lib.hid (gb_trans NV.out k5); have X5 := Lib.hid (XV.out.nw k5)
          have O6 := Lib.hid (o5.more (gb_trans N4.out NV.out).size)
          refine hK _ _ ⟨N5.out, ?_⟩
          clear hK K k5
          refine held_seg' (l := [8, 9, 10]) (fuel := 2) rfl (by kernel_rfl) (by kernel_rfl) (by simp only [List.filterMap_cons, List.filterMap_nil, List.getElem?_toArray, List.getElem?_cons_succ, List.getElem?_cons_zero]; rfl) (fun _ _ d _ _ h => by cases d <;> exact h) N5.out ?_
          iterate 3 (refine wpYield_step rfl (fun K hK => ?_)
                     apply Exists.intro
                     refine ⟨fun w' hw' => ?_, ?_⟩
                     · (go_simp; try with_reducible rfl)
                     go_simp
                     refine hK _ ?_
                     clear hK K)
          refine wpYield_nil ?_
          refine held_eff 12 rfl (by kernel_rfl) rfl (fun K hK => ?_)
          refine wp_store_obj 24 _ _ rfl [.int .i64 a, .int .i64 (g + 1), .int .i64 m, .int .i64 b, .slice (some ⟨r5, 0, none⟩) j c5] rfl rfl rfl (by kernel_rfl) (lc_one1 _ _ _ _ _ _ _) X5.out rfl (fun w7 s1 s2 => ?_)
          have N7 := nw_of_gb N5.out s2 (fun r hr => by injection hr with hr; omega)
          have O7 := O6.out.kept s2 (fun r hr e => by injection hr with hr; subst hr; obtain ⟨cur, ho⟩ := O6.out.rowObj _ e; exact ho.ne X5.out (by decide) rfl)
          refine hK _ _ ⟨N7, ?_⟩
          clear hK K
          refine held_seg' (l := [13]) (fuel := 0) rfl (by kernel_rfl) (by kernel_rfl) (by simp only [List.filterMap_cons, List.filterMap_nil, List.getElem?_toArray, List.getElem?_cons_succ, List.getElem?_cons_zero]; rfl) (fun _ _ d _ _ h => by cases d <;> exact h) N7 ?_
          (refine wpYield_step rfl (fun K hK => ?_)
           apply Exists.intro
           refine ⟨fun w' hw' => ?_, ?_⟩
           · (go_simp; try with_reducible rfl)
           go_simp
           refine hK _ ?_
           clear hK K)
          refine wpYield_nil ?_
          refine wpAnyH_done (by kernel_rfl) ?_ _
          go_wp2
          go_meet
          exact ⟨xx, r5, c5, rfl, rfl, s1, O7, N7⟩
      case rest =>
        obtain ⟨x5, r5, c5, rfl, rfl, ho5, hr5, hn5⟩ := hcut
        obtain ⟨w8, rfl⟩ : ∃ W, W = wc := ⟨_, rfl⟩
        obtain ⟨hrn, hen⟩ := HAG.out (some ⟨r5, 0, none⟩) c5
        have hok5 : LOk w8 w8.heap.size ⟨a, g + 1, m, b, some ⟨r5, 0, none⟩, j, c5, mL.set i1 (failed q1)⟩ := ⟨hr5.rd, hr5.cap.1, hr5.cap.2⟩
        have hrt := fun (w' : World) (k : Nw w8 w') => right_any (hok5.nw k (Nat.le_refl _)) k.size (by simp only; omega)
        obtain ⟨v, hv⟩ : ∃ v : Int, (if kk = i1 then 9 else 5) = v := ⟨_, rfl⟩
        rw [hv] at hen
        have hlf := fun (w' : World) (k : Nw w8 w') => lost_fail (hok5.nw k (Nat.le_refl _)) k.size (by simp only; omega) hen (by rw [← hv]; split <;> decide)
        rw [hrn] at hrt
        unfold lv Ret at hrt
        simp only at hlf hrt
        have HLF := Lib.hid hlf; have HRT := Lib.hid hrt; have HV := Lib.hid hv; have OB5 := Lib.hid ho5; have N8 := Lib.hid (gb_trans N4.out hn5); have N48 := Lib.hid hn5
        have hc4 : ∀ w', Nw w8 w' → w'.cell? ⟨y, 4, none⟩ = some (.slice (some ⟨r, 0, none⟩) j c2) := fun w' k => HC4.out _ (gb_trans N48.out k)
        have hck : ∀ w', Nw w8 w' → w'.cell? ⟨r, kk * 3, none⟩ = some (.int .i64 q2.id) := fun w' k => HCK.out _ (gb_trans N48.out k)
        clear ho5 hr5 hn5 hrn hen hok5 hrt hlf hv
        go_upto_region 12 with fail
        go_cut [13, 14] (fun x e wx => ∃ (x6 : Nat), x = .pointer (some ⟨x6, 0, none⟩) ∧ e = .int .i64 v ∧ Nw w8 wx)
        case first =>
          refine wp_region_held (S := (fun w' => Nw w8 w')) (by kernel_rfl) ?_
          change wpAnyH _ _ _ _ _ _ _ _ (World.drew w8)
          refine held_seg' (l := [0, 1, 2, 3, 4, 5, 6]) (fuel := 7) rfl (by kernel_rfl) (by kernel_rfl) (by simp only [List.filterMap_cons, List.filterMap_nil, List.getElem?_toArray, List.getElem?_cons_succ, List.getElem?_cons_zero]; rfl) (fun _ _ d _ _ h => by cases d <;> exact h) (gb_drew (Nw.refl w8)) ?_
          refine wpYield_load_agg 24 _ rfl rfl rfl [.int .i64 a, .int .i64 (g + 1), .int .i64 m, .int .i64 b, .slice (some ⟨r5, 0, none⟩) j c5] (fun w' hw' => load_of (OB5.out.nw hw')) _ Try.underlying24 rfl (by kernel_rfl) ?_
          iterate 6 (refine wpYield_step rfl (fun K hK => ?_)
                     apply Exists.intro
                     refine ⟨fun w' hw' => ?_, ?_⟩
                     · (go_simp; try with_reducible rfl)
                     go_simp
                     refine hK _ ?_
                     clear hK K)
          refine wpYield_nil ?_
          have NB := Lib.hid (show Nw w8 w8.drew from gb_drew (Nw.refl w8))
          generalize w8.drew = wd at NB ⊢
          clear hc4 hck
          refine wpAnyH_all (rs := [7, 11]) (by kernel_rfl) (by simp) fun jj hjj => ?_
          simp only [List.mem_cons, List.not_mem_nil, or_false] at hjj
          rcases hjj with rfl | rfl
          · refine wpOp_take 7 rfl rfl (fun K hK => ?_)
            go_simp
            refine (HLF.out _ NB.out).mono ?_
            rintro e w5 ⟨rfl, k5⟩
            have N5 := Lib.hid (gb_trans NB.out k5)
            refine hK _ _ ⟨N5.out, ?_⟩
            clear hK K k5
            refine held_seg' (l := [8, 9, 10]) (fuel := 3) rfl (by kernel_rfl) (by kernel_rfl) (by simp only [List.filterMap_cons, List.filterMap_nil, List.getElem?_toArray, List.getElem?_cons_succ, List.getElem?_cons_zero]; rfl) (fun _ _ d _ _ h => by cases d <;> exact h) N5.out ?_
            iterate 3 (refine wpYield_step rfl (fun K hK => ?_)
                       apply Exists.intro
                       refine ⟨fun w' hw' => ?_, ?_⟩
                       · (go_simp; try with_reducible rfl)
                       go_simp
                       refine hK _ ?_
                       clear hK K)
            refine wpYield_nil ?_
            refine held_eff 11 rfl (by kernel_rfl) rfl (fun K hK => ?_)
            go_simp
            have XB := Obj1.new w5 24 #[.int .i64 0, .int .i64 0, .int .i64 0, .int .i64 0, .slice none 0 0]
            have GX := World.grownBy_alloc w5 (.cells #[.int .i64 0, .int .i64 0, .int .i64 0, .int .i64 0, .slice none 0 0] 24) none
            have hxl : w8.heap.size ≤ w5.heap.size := N5.out.size
            obtain ⟨V, hV⟩ : ∃ V, w5.alloc (.cells #[.int .i64 0, .int .i64 0, .int .i64 0, .int .i64 0, .slice none 0 0] 24) = V := ⟨_, rfl⟩
            obtain ⟨xx, hxx⟩ : ∃ x, w5.heap.size = x := ⟨_, rfl⟩
            rw [hV] at XB GX ⊢
            rw [hxx] at XB hxl ⊢
            have NV := Lib.hid (gb_trans N5.out GX); have XV := Lib.hid XB

            clear hV hxx XB GX
            refine hK _ _ ⟨NV.out, ?_⟩
            clear hK K
            refine held_eff 12 rfl (by kernel_rfl) rfl (fun K hK => ?_)
            refine wp_store_obj 24 _ _ rfl [.int .i64 0, .int .i64 0, .int .i64 0, .int .i64 0, .slice none 0 0] rfl rfl rfl (by kernel_rfl) (lc_one1 _ _ _ _ _ _ _) XV.out rfl (fun w7 s1 s2 => ?_)
            have N7 := nw_of_gb NV.out s2 (fun r hr => by injection hr with hr; omega)
            refine hK _ _ ⟨N7, ?_⟩
            clear hK K
            refine held_seg' (l := [13]) (fuel := 0) rfl (by kernel_rfl) (by kernel_rfl) (by simp only [List.filterMap_cons, List.filterMap_nil, List.getElem?_toArray, List.getElem?_cons_succ, List.getElem?_cons_zero]; rfl) (fun _ _ d _ _ h => by cases d <;> exact h) N7 ?_
            (refine wpYield_step rfl (fun K hK => ?_)
             apply Exists.intro
             refine ⟨fun w' hw' => ?_, ?_⟩
             · (go_simp; try with_reducible rfl)
             go_simp
             refine hK _ ?_
             clear hK K)
            refine wpYield_nil ?_
            refine wpAnyH_done (by kernel_rfl) ?_ _
            go_wp2
            go_meet
            exact ⟨xx, rfl, rfl, N7⟩
          · refine wpOp_take 11 rfl rfl (fun K hK => ?_)
            go_simp
            have XB := Obj1.new wd 24 #[.int .i64 0, .int .i64 0, .int .i64 0, .int .i64 0, .slice none 0 0]
            have GX := World.grownBy_alloc wd (.cells #[.int .i64 0, .int .i64 0, .int .i64 0, .int .i64 0, .slice none 0 0] 24) none
            have hxl : w8.heap.size ≤ wd.heap.size := NB.out.size
            obtain ⟨V, hV⟩ : ∃ V, wd.alloc (.cells #[.int .i64 0, .int .i64 0, .int .i64 0, .int .i64 0, .slice none 0 0] 24) = V := ⟨_, rfl⟩
            obtain ⟨xx, hxx⟩ : ∃ x, wd.heap.size = x := ⟨_, rfl⟩
            rw [hV] at XB GX ⊢
            rw [hxx] at XB hxl ⊢
            have NV := Lib.hid (gb_trans NB.out GX); have XV := Lib.hid XB
            clear hV hxx XB GX
            refine hK _ _ ⟨NV.out, ?_⟩
            clear hK K
            refine held_eff 7 rfl (by kernel_rfl) rfl (fun K hK => ?_)
            go_simp
            refine (HLF.out _ NV.out).mono ?_
            rintro e w5 ⟨rfl, k5⟩
            have N5 := Lib.hid (gb_trans NV.out k5); have X5 := Lib.hid (XV.out.nw k5)
            refine hK _ _ ⟨N5.out, ?_⟩
            clear hK K k5
            refine held_seg' (l := [8, 9, 10]) (fuel := 2) rfl (by kernel_rfl) (by kernel_rfl) (by simp only [List.filterMap_cons, List.filterMap_nil, List.getElem?_toArray, List.getElem?_cons_succ, List.getElem?_cons_zero]; rfl) (fun _ _ d _ _ h => by cases d <;> exact h) N5.out ?_
            iterate 3 (refine wpYield_step rfl (fun K hK => ?_)
                       apply Exists.intro
                       refine ⟨fun w' hw' => ?_, ?_⟩
                       · (go_simp; try with_reducible rfl)
                       go_simp
                       refine hK _ ?_
                       clear hK K)
            refine wpYield_nil ?_
            refine held_eff 12 rfl (by kernel_rfl) rfl (fun K hK => ?_)
            refine wp_store_obj 24 _ _ rfl [.int .i64 0, .int .i64 0, .int .i64 0, .int .i64 0, .slice none 0 0] rfl rfl rfl (by kernel_rfl) (lc_one1 _ _ _ _ _ _ _) X5.out rfl (fun w7 s1 s2 => ?_)
            have N7 := nw_of_gb N5.out s2 (fun r hr => by injection hr with hr; omega)
            refine hK _ _ ⟨N7, ?_⟩
            clear hK K
            refine held_seg' (l := [13]) (fuel := 0) rfl (by kernel_rfl) (by kernel_rfl) (by simp only [List.filterMap_cons, List.filterMap_nil, List.getElem?_toArray, List.getElem?_cons_succ, List.getElem?_cons_zero]; rfl) (fun _ _ d _ _ h => by cases d <;> exact h) N7 ?_
            (refine wpYield_step rfl (fun K hK => ?_)
             apply Exists.intro
             refine ⟨fun w' hw' => ?_, ?_⟩
             · (go_simp; try with_reducible rfl)
             go_simp
             refine hK _ ?_
             clear hK K)
            refine wpYield_nil ?_
            refine wpAnyH_done (by kernel_rfl) ?_ _
            go_wp2
            go_meet
            exact ⟨xx, rfl, rfl, N7⟩
        case rest =>
          obtain ⟨x6, rfl, rfl, hn6⟩ := hcut
          obtain ⟨w9, rfl⟩ : ∃ W, W = wc := ⟨_, rfl⟩
          clear hc4 hck
          have BX9 := Lib.hid (BX4.out.nw (gb_trans N48.out hn6)); have OB9 := Lib.hid (OB5.out.nw hn6); have N9 := Lib.hid (gb_trans N8.out hn6)
          have H339 := Lib.hid (H33.out w9 (gb_trans N48.out hn6)); have N89 := Lib.hid hn6
          rcases (show kk = i1 ∨ kk ≠ i1 by omega) with e | e
          · have hv := HV.out
            rw [if_pos e] at hv
            subst hv
            have b1 : ((i1 : Int) == (kk : Int)) = true := by simp; omega
            have b2 : (i1 == kk) = true := by simp; omega
            clear e hn6
            go_upto_region 17 with (first | ((with_reducible refine H339.out.mono ?_); rintro e wD ⟨rfl, kD⟩; have NE := Lib.hid (nw_alloc (o := .cells #[.int .i64 0, .int .i64 0, .int .i64 0, .int .i64 0, .slice none 0 0] 24) (gb_trans N89.out kD)); have OBE := Lib.hid (OB9.out.nw (nw_alloc (o := .cells #[.int .i64 0, .int .i64 0, .int .i64 0, .int .i64 0, .slice none 0 0] 24) kD)); have NZ := Lib.hid (gb_trans N9.out (nw_alloc (o := .cells #[.int .i64 0, .int .i64 0, .int .i64 0, .int .i64 0, .slice none 0 0] 24) kD))) | (refine wpList_load_obj 24 _ rfl rfl rfl BX9.out _ Try.underlying24 rfl (by kernel_rfl) ?_))
            go_wp2_with (first | ((with_reducible refine (HRT.out _ NE.out).mono ?_); rintro e wE ⟨rfl, kE⟩; have NF := Lib.hid (gb_trans NZ.out kE)) | (refine wpList_load_obj 24 _ rfl rfl rfl OBE.out _ Try.underlying24 rfl (by kernel_rfl) ?_))
            go_ret
            exact ⟨rfl, NF.out⟩
          · have hv := HV.out
            rw [if_neg e] at hv
            subst hv
            have b1 : ((i1 : Int) == (kk : Int)) = false := by simp; omega
            have b2 : (i1 == kk) = false := by simp; omega
            clear e hn6
            go_upto_region 17 with (first | ((with_reducible refine H339.out.mono ?_); rintro e wD ⟨rfl, kD⟩; have NE := Lib.hid (nw_alloc (o := .cells #[.int .i64 0, .int .i64 0, .int .i64 0, .int .i64 0, .slice none 0 0] 24) (gb_trans N89.out kD)); have OBE := Lib.hid (OB9.out.nw (nw_alloc (o := .cells #[.int .i64 0, .int .i64 0, .int .i64 0, .int .i64 0, .slice none 0 0] 24) kD)); have NZ := Lib.hid (gb_trans N9.out (nw_alloc (o := .cells #[.int .i64 0, .int .i64 0, .int .i64 0, .int .i64 0, .slice none 0 0] 24) kD))) | (refine wpList_load_obj 24 _ rfl rfl rfl BX9.out _ Try.underlying24 rfl (by kernel_rfl) ?_))
            go_wp2_with (first | ((with_reducible refine (HRT.out _ NE.out).mono ?_); rintro e wE ⟨rfl, kE⟩; have NF := Lib.hid (gb_trans NZ.out kE)) | (refine wpList_load_obj 24 _ rfl rfl rfl OBE.out _ Try.underlying24 rfl (by kernel_rfl) ?_))
            go_ret
            exact ⟨rfl, NF.out⟩
theorem lost_all {w : World} (x : Lb) (h : LIn w x) (p : Int) (hp : -9223372036854775808 ≤ p ∧ p ≤ 9223372036854775807) (q : Int) (hq : -9223372036854775808 ≤ q ∧ q ≤ 9223372036854775807) : Calls Try.prog 4 #[lv x, .int .i64 p, .int .i64 q] w (Ret (.bool true) w) := lost_walk h (Nat.le_refl _) p q hp hq
end Go.Proofs.Ytkkkhkkjdjnfhaa

