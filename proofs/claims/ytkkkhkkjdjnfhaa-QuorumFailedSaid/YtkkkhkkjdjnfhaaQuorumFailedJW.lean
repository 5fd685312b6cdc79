/- The walk of QuorumFailed. -/
import Derived.Test.YtkkkhkkjdjnfhaaJH
set_option linter.unusedVariables false
set_option linter.unusedSimpArgs false
namespace Go.Proofs.Ytkkkhkkjdjnfhaa
open Go.RowKit Go.BW

set_option maxRecDepth 100000 in
set_option maxHeartbeats 8000000 in
theorem failed_walk {w : World} {B : Nat} {x : Lb} (h : LOk w B x) (hB : B ≤ w.heap.size) (p q : Int) (hp : -9223372036854775808 ≤ p ∧ p ≤ 9223372036854775807) (hq : -9223372036854775808 ≤ q ∧ q ≤ 9223372036854775807) : Calls Try.prog 7 #[lv x, .int .i64 p, .int .i64 q] w (Ret (.bool true) w) := by
  have hbx := Obj1.new w 24 #[.int .i64 x.a, .int .i64 x.g, .int .i64 x.m, .int .i64 x.b, .slice x.A x.n x.c]
  have hg0 := World.grownBy_alloc w (.cells #[.int .i64 x.a, .int .i64 x.g, .int .i64 x.m, .int .i64 x.b, .slice x.A x.n x.c] 24) none
  have HS := Lib.hid shown_any
  unfold Ret at HS
  have HC := Lib.hid (fun w' (k : Nw w w') => cut_any (h.nw k hB) (Nat.le_trans hB k.size))
  unfold CutPost at HC
  unfold lv at HC ⊢
  obtain ⟨a, g, m, b, A, n, c, ms0⟩ := x
  simp only at HC hbx hg0 ⊢
  obtain ⟨ms, hms⟩ : ∃ ms, ms0.take 20 = ms := ⟨_, rfl⟩
  have hml : ms.length ≤ 20 := by rw [← hms, List.length_take]; omega
  rw [hms] at HC
  obtain ⟨V, hV⟩ : ∃ V, w.alloc (.cells #[.int .i64 a, .int .i64 g, .int .i64 m, .int .i64 b, .slice A n c] 24) = V := ⟨_, rfl⟩
  obtain ⟨y, hy⟩ : ∃ y, w.heap.size = y := ⟨_, rfl⟩
  rw [hV] at hbx hg0
  rw [hy] at hbx
  have hyw : w.heap.size ≤ y := by omega
  have hyV := hbx.lt
  have OB := Lib.hid hbx; have N0 := Lib.hid hg0
  clear hms h
  go_enter Try.func7, Try.ntmps7
  go_upto_region 3 with (first
    | (refine wpList_store_obj 24 _ _ rfl rfl [.int .i64 a, .int .i64 g, .int .i64 m, .int .i64 b, .slice A2 n2 c2] rfl rfl rfl (by kernel_rfl) (lc_one1 a g m b A2 n2 c2) (OB1.out.nw k2) rfl ?_; intro w3 s1 s2)
    | ((with_reducible refine (HC.out _ N1.out).mono ?_); rintro e w2 ⟨A2, n2, c2, rfl, o2, k2⟩)
    | (refine wpList_load_obj 24 _ rfl rfl rfl OB1.out _ Try.underlying24 rfl (by kernel_rfl) ?_)
    | ((with_reducible refine (HS.out _).mono ?_); rintro e w1 ⟨rfl, k1⟩; have OB1 := Lib.hid (OB.out.nw k1); have N1 := Lib.hid (gb_trans N0.out k1)))
  have o3 := o2.kept s2 (fun r hr e => by injection hr with hr; subst hr; obtain ⟨cur, ho⟩ := o2.rowObj _ e; exact ho.ne (OB1.out.nw k2) (by decide) rfl)
  have n3 := nw_of_gb (gb_trans N1.out k2) s2 (fun r hr => by injection hr with hr; omega)
  have hn2 : n2 = ms.length := (o2.lenL mc_len (by decide)).symm
  have hn20 : n2 ≤ 20 := by omega
  have hbs : w.heap.size ≤ w1.heap.size := N1.out.size
  have O3 := Lib.hid (o3.more hbs); have N3 := Lib.hid n3; have B3 := Lib.hid s1
  have HL := Lib.hid hn2
  clear o2 o3 n3 s1 s2 k1 k2 HC OB OB1 N0 N1 hbs hn2
  go_wp2_with fail
  go_loopw [8] (fun i wr => ∃ (j : Nat), j ≤ n2 ∧ i = .int .i64 j ∧ Own wr w.heap.size 28 3 A2 n2 c2 (fl mc (liveTo ms j)) ∧ Obj1 wr y 24 #[.int .i64 a, .int .i64 g, .int .i64 m, .int .i64 b, .slice A2 n2 c2] ∧ Nw w wr) (fun i _ => n2 - (intOf i).toNat)
  case atStart => exact ⟨0, Nat.zero_le _, rfl, by rw [liveTo_zero]; exact O3.out, B3.out, N3.out⟩
  case round =>
    obtain ⟨j, hj, rfl, hown, hbox, hnw⟩ := hrel
    by_cases hlt : j < n2
    · have hjn : (j : Int) < (n2 : Int) := by omega
      obtain ⟨r, rfl, hr⟩ := hown.some_ (by omega)
      obtain ⟨⟨u, hu, hf⟩, hs, hgb⟩ := live_step hown hlt
      obtain ⟨cur, hro⟩ := hown.obj
      have hne : y ≠ r := hbox.ne hro (by decide)
      have hk4 := hbox.cell 4
      have S := Lib.hid hs; have G := Lib.hid hgb; have BX := Lib.hid hbox; have NR := Lib.hid hnw
      clear hs hgb hown hbox hro hnw
      go_wp2
      go_roundw
      case rel => exact ⟨j + 1, by omega, by go_num, S.out, BX.out.chg (Chg.of_gb (F := [r]) G.out (by intro q hq; injection hq with hq; simp [hq])) (by simpa using hne), nw_of_gb NR.out G.out (fun q hq => by injection hq with hq; omega)⟩
      case measure => simp only [intOf]; omega
    · have hje : j = n2 := by omega
      subst hje
      have hjn : decide ((j : Int) < (j : Int)) = false := by simp
      rw [liveTo_all (by rw [HL.out]; exact Nat.le_refl _)] at hown
      have hk4 := hbox.cell 4
      have S := Lib.hid hown; have BX := Lib.hid hbox; have NR := Lib.hid hnw
      clear hown hbox hnw
      go_upto_region 7 with fail
      have hok : LOk wr wr.heap.size ⟨a, g, m, b, A2, j, c2, ms.map live⟩ := ⟨S.out.rd, S.out.cap.1, S.out.cap.2⟩
      have HR := Lib.hid (right_any hok (Nat.le_refl _) (by simp only; omega))
      unfold lv Ret at HR
      simp only at HR
      obtain ⟨mL, hmL⟩ : ∃ mL, ms.map live = mL := ⟨_, rfl⟩
      have HML := Lib.hid (show mL = ms.map live from hmL.symm)
      rw [hmL] at HR S hok
      obtain ⟨R, hRR⟩ : ∃ R, rightB ⟨a, g, m, b, A2, j, c2, mL⟩ = R := ⟨_, rfl⟩
      rw [hRR] at HR
      have HRR := Lib.hid hRR
      clear hok hRR
      have k1 := BX.out.cell 1
      rcases R with _ | _
      · go_wp2_with (first | ((with_reducible refine HR.out.mono ?_); rintro e w4 ⟨rfl, k4⟩; have BX4 := Lib.hid (BX.out.nw k4); have S4 := Lib.hid (S.out.nw k4); have N4 := Lib.hid (gb_trans NR.out k4)) | (refine wpList_load_obj 24 _ rfl rfl rfl BX.out _ Try.underlying24 rfl (by kernel_rfl) ?_))
        go_ret
        exact ⟨rfl, N4.out⟩
      have hgm : True := trivial
      rcases (show 2147483648 < g ∨ g ≤ 2147483648 by omega) with hg | hg
      · have k1b : ∀ w', Nw wr w' → w'.cell? ⟨y, 1, none⟩ = some (.int .i64 g) := fun w' k => (BX.out.nw k).cell 1
        go_wp2_with (first | ((with_reducible refine HR.out.mono ?_); rintro e w4 ⟨rfl, k4⟩; have N4 := Lib.hid (gb_trans NR.out k4); have kg := k1b w4 k4) | (refine wpList_load_obj 24 _ rfl rfl rfl BX.out _ Try.underlying24 rfl (by kernel_rfl) ?_))
        go_ret
        exact ⟨rfl, N4.out⟩
      have hgd : decide (2147483648 < g) = false := by simp; omega
      have hj3 := (right_parts HRR.out).1
      have hj12 := (right_parts HRR.out).2.1
      simp only at hj3 hj12
      have hjz : ¬ ((j : Int) = 0) := by omega
      obtain ⟨pm, i1, hpm, hpi, hi1⟩ := place p (show 0 < j by omega)
      obtain ⟨qm, kk, hqm, hqi, hkk⟩ := place q (show 0 < j by omega)
      go_upto_region 9 with (first | ((with_reducible refine HR.out.mono ?_); rintro e w4 ⟨rfl, k4⟩; have BX4 := Lib.hid (BX.out.nw k4); have S4 := Lib.hid (S.out.nw k4); have N4 := Lib.hid (gb_trans NR.out k4); have kg := BX4.out.cell 1; have kg4 := BX4.out.cell 4) | (refine wpList_load_obj 24 _ rfl rfl rfl BX.out _ Try.underlying24 rfl (by kernel_rfl) ?_))
      have hln : mL.length = j := S4.out.lenL mc_len (by decide)
      have hlive : ∀ z ∈ mL, z.st = 0 := by intro z hz; rw [HML.out, List.mem_map] at hz; obtain ⟨z', _, rfl⟩ := hz; rfl
      obtain ⟨q1, hq1⟩ : ∃ z, mL[i1]? = some z := ⟨_, List.getElem?_eq_getElem (show i1 < mL.length by omega)⟩
      obtain ⟨q2, hq2⟩ : ∃ z, mL[kk]? = some z := ⟨_, List.getElem?_eq_getElem (show kk < mL.length by omega)⟩
      obtain ⟨r, rfl, hr⟩ := S4.out.some_ (by omega)
      have hok4 : LOk w4 w4.heap.size ⟨a, g, m, b, some ⟨r, 0, none⟩, j, c2, mL⟩ := ⟨S4.out.rd, S4.out.cap.1, S4.out.cap.2⟩
      have hlo := fun (w' : World) (k : Nw w4 w') => lost_live (x := ⟨a, g, m, b, some ⟨r, 0, none⟩, j, c2, mL⟩) (q := q1) (hok4.nw k (Nat.le_refl _)) k.size (by simp only; omega) HRR.out hlive (by simp only; omega) hq1
      have hag := fun A c => lostE_again (A := A) (c := c) HRR.out hlive (by simp only; omega) hq1 hq2
      simp only at hlo hag
      have HLO := Lib.hid hlo; have HAG := Lib.hid hag; have HQ1 := Lib.hid hq1; have HQ2 := Lib.hid hq2; have HOK := Lib.hid hok4
      have hc4 : ∀ w', Nw w4 w' → w'.cell? ⟨y, 4, none⟩ = some (.slice (some ⟨r, 0, none⟩) j c2) := fun w' k => (BX4.out.nw k).cell 4
      have hci : ∀ w', Nw w4 w' → w'.cell? ⟨r, i1 * 3, none⟩ = some (.int .i64 q1.id) := fun w' k => (S4.out.nw k).atL mc_len (by decide) hq1 0 _ rfl
      have hck : ∀ w', Nw w4 w' → w'.cell? ⟨r, kk * 3, none⟩ = some (.int .i64 q2.id) := fun w' k => (S4.out.nw k).atL mc_len (by decide) hq2 0 _ rfl
      have HC4 := Lib.hid hc4; have HCI := Lib.hid hci; have HCK := Lib.hid hck
      clear hlo hag hq1 hq2 hok4 hc4 hci hck hlive HR BX S NR kg k4
      go_upto_region 11 with fail
      go_cut [11, 12] (fun x e wx => ∃ (x5 r5 c5 : Nat), x = .pointer (some ⟨x5, 0, none⟩) ∧ e = .int .i64 0 ∧ Obj1 wx x5 24 #[.int .i64 a, .int .i64 (g + 1), .int .i64 m, .int .i64 b, .slice (some ⟨r5, 0, none⟩) j c5] ∧ Own wx w.heap.size 28 3 (some ⟨r5, 0, none⟩) j c5 (fl mc (mL.set i1 (failed q1))) ∧ Nw w4 wx)
      case first =>
        have hc4 := HC4.out; have hci := HCI.out
        refine wp_region_held (S := (fun w' => Nw w4 w')) (by kernel_rfl) ?_
        change wpAnyH _ _ _ _ _ _ _ _ (World.drew w4)
        refine held_seg' (l := [0, 1, 2, 3, 4, 5, 6]) (fuel := 7) rfl (by kernel_rfl) (by kernel_rfl) (by simp only [List.filterMap_cons, List.filterMap_nil, List.getElem?_toArray, List.getElem?_cons_succ, List.getElem?_cons_zero]; rfl) (fun _ _ d _ _ h => by cases d <;> exact h) (gb_drew (Nw.refl w4)) ?_
        refine wpYield_load_agg 24 _ rfl rfl rfl [.int .i64 a, .int .i64 g, .int .i64 m, .int .i64 b, .slice (some ⟨r, 0, none⟩) j c2] (fun w' hw' => load_of (BX4.out.nw hw')) _ Try.underlying24 rfl (by kernel_rfl) ?_
        iterate 6 (refine wpYield_step rfl (fun K hK => ?_)
                   apply Exists.intro
                   refine ⟨fun w' hw' => ?_, ?_⟩
                   · (go_simp; try with_reducible rfl)
                   go_simp
                   refine hK _ ?_
                   clear hK K)
        refine wpYield_nil ?_
        have NB := Lib.hid (show Nw w4 w4.drew from gb_drew (Nw.refl w4))
        generalize w4.drew = wd at NB ⊢
        clear hc4 hci
        refine wpAnyH_all (rs := [7, 11]) (by kernel_rfl) (by simp) fun jj hjj => ?_
        simp only [List.mem_cons, List.not_mem_nil, or_false] at hjj
        rcases hjj with rfl | rfl
        · refine wpOp_take 7 rfl rfl (fun K hK => ?_)
          go_simp
          refine (HLO.out _ NB.out).mono ?_
          rintro e w5 ⟨k5, r5, c5, rfl, o5⟩
          have N5 := Lib.hid (gb_trans NB.out k5)
          have O5 := Lib.hid (o5.more (gb_trans N4.out NB.out).size)
          refine hK _ _ ⟨N5.out, ?_⟩
          clear hK K k5
          refine held_seg' (l := [8, 9, 10]) (fuel := 3) rfl (by kernel_rfl) (by kernel_rfl) (by simp only [List.filterMap_cons, List.filterMap_nil, List.getElem?_toArray, List.getElem?_cons_succ, List.getElem?_cons_zero]; rfl) (fun _ _ d _ _ h => by cases d <;> exact h) N5.out ?_
          iterate 3 (refine wpYield_step rfl (fun K hK => ?_)
                     apply Exists.intro
                     refine ⟨fun w' hw' => ?_, ?_⟩
                     · (go_simp; try with_reducible rfl)
                     go_simp
                     refine hK _ ?_
                     clear hK K)
          refine wpYield_nil ?_
          refine held_eff 11 rfl (by kernel_rfl) rfl (fun K hK => ?_)
          go_simp
          have XB := Obj1.new w5 24 #[.int .i64 0, .int .i64 0, .int .i64 0, .int .i64 0, .slice none 0 0]
          have GX := World.grownBy_alloc w5 (.cells #[.int .i64 0, .int .i64 0, .int .i64 0, .int .i64 0, .slice none 0 0] 24) none
          have hxl : w4.heap.size ≤ w5.heap.size := N5.out.size
          obtain ⟨V, hV⟩ : ∃ V, w5.alloc (.cells #[.int .i64 0, .int .i64 0, .int .i64 0, .int .i64 0, .slice none 0 0] 24) = V := ⟨_, rfl⟩
          obtain ⟨xx, hxx⟩ : ∃ x, w5.heap.size = x := ⟨_, rfl⟩
          rw [hV] at XB GX ⊢
          rw [hxx] at XB hxl ⊢
          have NV := Lib.hid (gb_trans N5.out GX); have XV := Lib.hid XB
          have O6 := Lib.hid (O5.out.nw GX)
          clear hV hxx XB GX
          refine hK _ _ ⟨NV.out, ?_⟩
          clear hK K
          refine held_eff 12 rfl (by kernel_rfl) rfl (fun K hK => ?_)
          refine wp_store_obj 24 _ _ rfl [.int .i64 a, .int .i64 (g + 1), .int .i64 m, .int .i64 b, .slice (some ⟨r5, 0, none⟩) j c5] rfl rfl rfl (by kernel_rfl) (lc_one1 _ _ _ _ _ _ _) XV.out rfl (fun w7 s1 s2 => ?_)
          have N7 := nw_of_gb NV.out s2 (fun r hr => by injection hr with hr; omega)
          have O7 := O6.out.kept s2 (fun r hr e => by injection hr with hr; subst hr; obtain ⟨cur, ho⟩ := O6.out.rowObj _ e; exact ho.ne XV.out (by decide) rfl)
          refine hK _ _ ⟨N7, ?_⟩
          clear hK K
          refine held_seg' (l := [13]) (fuel := 0) rfl (by kernel_rfl) (by kernel_rfl) (by simp only [List.filterMap_cons, List.filterMap_nil, List.getElem?_toArray, List.getElem?_cons_succ, List.getElem?_cons_zero]; rfl) (fun _ _ d _ _ h => by cases d <;> exact h) N7 ?_
          (refine wpYield_step rfl (fun K hK => ?_)
           apply Exists.intro
           refine ⟨fun w' hw' => ?_, ?_⟩
           · (go_simp; try with_reducible rfl)
           go_simp
           refine hK _ ?_
           clear hK K)
          refine wpYield_nil ?_
          refine wpAnyH_done (by kernel_rfl) ?_ _
          go_wp2
          go_meet
          exact ⟨xx, r5, c5, rfl, rfl, s1, O7, N7⟩
        · refine wpOp_take 11 rfl rfl (fun K hK => ?_)
          go_simp
          have XB := Obj1.new wd 24 #[.int .i64 0, .int .i64 0, .int .i64 0, .int .i64 0, .slice none 0 0]
          have GX := World.grownBy_alloc wd (.cells #[.int .i64 0, .int .i64 0, .int .i64 0, .int .i64 0, .slice none 0 0] 24) none
          have hxl : w4.heap.size ≤ wd.heap.size := NB.out.size
          obtain ⟨V, hV⟩ : ∃ V, wd.alloc (.cells #[.int .i64 0, .int .i64 0, .int .i64 0, .int .i64 0, .slice none 0 0] 24) = V := ⟨_, rfl⟩
          obtain ⟨xx, hxx⟩ : ∃ x, wd.heap.size = x := ⟨_, rfl⟩
          rw [hV] at XB GX ⊢
          rw [hxx] at XB hxl ⊢
          have NV := Lib.hid (gb_trans NB.out GX); have XV := Lib.hid XB
          clear hV hxx XB GX
          refine hK _ _ ⟨NV.out, ?_⟩
          clear hK K
          refine held_eff 7 rfl (by kernel_rfl) rfl (fun K hK => ?_)
          go_simp
          refine (HLO.out _ NV.out).mono ?_
          rintro e w5 ⟨k5, r5, c5, rfl, o5⟩
          have N5 := Lib.hid (gb_trans NV.out k5); have X5 := Lib.hid (XV.out.nw k5)
          have O6 := Lib.hid (o5.more (gb_trans N4.out NV.out).size)
          refine hK _ _ ⟨N5.out, ?_⟩
          clear hK K k5
          refine held_seg' (l := [8, 9, 10]) (fuel := 2) rfl (by kernel_rfl) (by kernel_rfl) (by simp only [List.filterMap_cons, List.filterMap_nil, List.getElem?_toArray, List.getElem?_cons_succ, List.getElem?_cons_zero]; rfl) (fun _ _ d _ _ h => by cases d <;> exact h) N5.out ?_
          iterate 3 (refine wpYield_step rfl (fun K hK => ?_)
                     apply Exists.intro
                     refine ⟨fun w' hw' => ?_, ?_⟩
                     · (go_simp; try with_reducible rfl)
                     go_simp
                     refine hK _ ?_
                     clear hK K)
          refine wpYield_nil ?_
          refine held_eff 12 rfl (by kernel_rfl) rfl (fun K hK => ?_)
          refine wp_store_obj 24 _ _ rfl [.int .i64 a, .int .i64 (g + 1), .int .i64 m, .int .i64 b, .slice (some ⟨r5, 0, none⟩) j c5] rfl rfl rfl (by kernel_rfl) (lc_one1 _ _ _ _ _ _ _) X5.out rfl (fun w7 s1 s2 => ?_)
          have N7 := nw_of_gb N5.out s2 (fun r hr => by injection hr with hr; omega)
          have O7 := O6.out.kept s2 (fun r hr e => by injection hr with hr; subst hr; obtain ⟨cur, ho⟩ := O6.out.rowObj _ e; exact ho.ne X5.out (by decide) rfl)
          refine hK _ _ ⟨N7, ?_⟩
          clear hK K
          refine held_seg' (l := [13]) (fuel := 0) rfl (by kernel_rfl) (by kernel_rfl) (by simp only [List.filterMap_cons, List.filterMap_nil, List.getElem?_toArray, List.getElem?_cons_succ, List.getElem?_cons_zero]; rfl) (fun _ _ d _ _ h => by cases d <;> exact h) N7 ?_
          (refine wpYield_step rfl (fun K hK => ?_)
           apply Exists.intro
           refine ⟨fun w' hw' => ?_, ?_⟩
           · (go_simp; try with_reducible rfl)
           go_simp
           refine hK _ ?_
           clear hK K)
          refine wpYield_nil ?_
          refine wpAnyH_done (by kernel_rfl) ?_ _
          go_wp2
          go_meet
          exact ⟨xx, r5, c5, rfl, rfl, s1, O7, N7⟩
      case rest =>
        obtain ⟨x5, r5, c5, rfl, rfl, ho5, hr5, hn5⟩ := hcut
        obtain ⟨w8, rfl⟩ : ∃ W, W = wc := ⟨_, rfl⟩
        obtain ⟨hrn, _⟩ := HAG.out (some ⟨r5, 0, none⟩) c5
        have HRN := Lib.hid hrn
        have BX8 := Lib.hid (BX4.out.nw hn5); have OB8 := Lib.hid ho5; have S8 := Lib.hid (S4.out.nw hn5); have R8 := Lib.hid hr5; have N8 := Lib.hid (gb_trans N4.out hn5)
        clear ho5 hr5 hn5 hrn HLO HC4 HCI HCK kg4 BX4 S4 N4
        rcases (show kk = i1 ∨ kk ≠ i1 by omega) with e | e
        · have b1 : ((i1 : Int) == (kk : Int)) = true := by simp; omega
          have b2 : (i1 == kk) = true := by simp; omega
          clear e
          go_wp2
          go_ret
          exact ⟨rfl, N8.out⟩
        have b1 : ((i1 : Int) == (kk : Int)) = false := by simp; omega
        have b2 : (i1 == kk) = false := by simp; omega
        go_upto_region 16 with fail
        obtain ⟨mN, hmN⟩ : ∃ mN, mL.set i1 (failed q1) = mN := ⟨_, rfl⟩
        rw [hmN] at R8 HRN
        have HMN := Lib.hid (show mN = mL.set i1 (failed q1) from hmN.symm)
        have hln2 : mL.length = j := S8.out.lenL mc_len (by decide)
        have HLN := Lib.hid hln2
        obtain ⟨lab, hlab⟩ : ∃ lab, withM ⟨a, g + 1, m, b, some ⟨r5, 0, none⟩, j, c5, mN⟩ = lab := ⟨_, rfl⟩
        have HLB := Lib.hid (fun q : Mem => show lc (lab q) = [.int .i64 a, .int .i64 (g + 1), .int .i64 q.id, .int .i64 b, .slice (some ⟨r5, 0, none⟩) j c5] by rw [← hlab]; rfl)
        have HLAB := Lib.hid hlab
        have HE := Lib.hid e
        clear hlab hmN hln2 hln e
        go_loopw [13, 14] (fun al iv wr => ∃ (i nl cl : Nat) (L : Option Addr), i ≤ j ∧ iv = .int .i64 i ∧ al = .slice L nl cl ∧ Own wr w8.heap.size 24 5 L nl cl (fl lc ((picks (two i1 kk) mL i).map lab)) ∧ Nw w8 wr) (fun _ i _ => j - (intOf i).toNat)
        case atStart => exact ⟨0, 0, 0, none, Nat.zero_le _, rfl, rfl, by rw [picks_zero]; exact Own.nil, Nw.refl _⟩
        case round =>
          obtain ⟨i, nl, cl, L, hij, rfl, rfl, hal, hnw⟩ := hrel
          have hbo := BX8.out.nw hnw
          have hk4 := hbo.cell 4
          by_cases hlt : i < j
          · have hij2 : (i : Int) < (j : Int) := by omega
            obtain ⟨z, hz⟩ : ∃ z, mL[i]? = some z := ⟨_, List.getElem?_eq_getElem (show i < mL.length by rw [HLN.out]; exact hlt)⟩
            have hc0 : wr.cell? ⟨r, i * 3, none⟩ = some (.int .i64 z.id) := (S8.out.nw hnw).atL mc_len (by decide) hz 0 _ rfl
            have hnl : nl ≤ i := by have h1 := hal.lenL lc_len (by decide); have h2 := picks_len (two i1 kk) mL i; rw [List.length_map] at h1; omega
            have P1 := Lib.hid (picks_step (P := two i1 kk) hz)
            have AL := Lib.hid hal; have NR := Lib.hid hnw
            clear hal hz hbo
            rcases (show i = i1 ∨ (i ≠ i1 ∧ i = kk) ∨ (i ≠ i1 ∧ i ≠ kk) by omega) with e | ⟨e, e2⟩ | ⟨e, e2⟩
            · have d1 : (i != i1) = false := by simp; omega
              have d2 : ((i : Int) != (i1 : Int)) = false := by simp; omega
              have HP := Lib.hid (show two i1 kk i = false by unfold two; rw [d1]; rfl)
              clear e
              go_wp2
              go_roundw
              case rel => exact ⟨i + 1, nl, cl, L, by omega, by go_num, rfl, by rw [P1.out, HP.out]; simpa using AL.out, NR.out⟩
              case measure => simp only [intOf]; omega
            · have d1 : (i != i1) = true := by simp; omega
              have d2 : ((i : Int) != (i1 : Int)) = true := by simp; omega
              have d3 : (i != kk) = false := by simp; omega
              have d4 : ((i : Int) != (kk : Int)) = false := by simp; omega
              have HP := Lib.hid (show two i1 kk i = false by unfold two; rw [d1, d3]; rfl)
              clear e e2
              go_wp2
              go_roundw
              case rel => exact ⟨i + 1, nl, cl, L, by omega, by go_num, rfl, by rw [P1.out, HP.out]; simpa using AL.out, NR.out⟩
              case measure => simp only [intOf]; omega
            · have d1 : (i != i1) = true := by simp; omega
              have d2 : ((i : Int) != (i1 : Int)) = true := by simp; omega
              have d3 : (i != kk) = true := by simp; omega
              have d4 : ((i : Int) != (kk : Int)) = true := by simp; omega
              have HP := Lib.hid (show two i1 kk i = true by unfold two; rw [d1, d3]; rfl)
              clear e e2
              go_upto_region 19 with fail
              have XB := Obj1.new wr 24 #[.int .i64 a, .int .i64 (g + 1), .int .i64 m, .int .i64 b, .slice (some ⟨r5, 0, none⟩) j c5]
              obtain ⟨V2, hV2, X2, nV2⟩ := new_set (w := wr) 24 #[.int .i64 a, .int .i64 (g + 1), .int .i64 m, .int .i64 b, .slice (some ⟨r5, 0, none⟩) j c5] 2 (.int .i64 z.id)
              obtain ⟨V1, hV1⟩ : ∃ V, wr.alloc (.cells #[.int .i64 a, .int .i64 (g + 1), .int .i64 m, .int .i64 b, .slice (some ⟨r5, 0, none⟩) j c5] 24) = V := ⟨_, rfl⟩
              have kc0 : V1.cell? ⟨r, i * 3, none⟩ = some (.int .i64 z.id) := by rw [← hV1]; exact cell_alloc hc0
              have kk4 : V1.cell? ⟨y, 4, none⟩ = some (.slice (some ⟨r, 0, none⟩) j c2) := by rw [← hV1]; exact cell_alloc hk4
              rw [hV1] at XB hV2
              obtain ⟨xb, hxb⟩ : ∃ xb, wr.heap.size = xb := ⟨_, rfl⟩
              rw [hxb] at XB hV2 X2
              have fx2 := XB.frozen 2
              have cx2 := XB.cell 2
              have X2' := Lib.hid (show Obj1 V2 xb 24 #[.int .i64 a, .int .i64 (g + 1), .int .i64 z.id, .int .i64 b, .slice (some ⟨r5, 0, none⟩) j c5] from X2); have NV2 := Lib.hid nV2
              have OBR := Lib.hid (OB8.out.nw hnw)
              clear XB X2 nV2
              go_upto_region 21 with (first | (refine wpList_load_obj 24 _ rfl rfl rfl OBR.out _ Try.underlying24 rfl (by kernel_rfl) ?_))
              have ALV := Lib.hid (AL.out.nw NV2.out); have NRV := Lib.hid (gb_trans NR.out NV2.out)
              have hys : w8.heap.size ≤ V2.heap.size := NRV.out.size
              have hlr := lc_one1 a (g + 1) z.id b (some ⟨r5, 0, none⟩) j c5
              have hyq := ALV.out.blk
              clear hxb cx2 fx2 kc0 kk4 hV1 hV2 NV2 AL NR hk4 hc0 hnw
              go_wp2_with (first
                | (at_builtin; refine wpList_appN_own T33 (cs := [Value.int .i64 a, .int .i64 (g + 1), .int .i64 z.id, .int .i64 b, .slice (some ⟨r5, 0, none⟩) j c5]) _ _ rfl rfl rfl rfl ALV.out rfl hlr (by unfold maxLen; omega) hys ?_; intro A8 c8 w8' o8 g8 _)
                | (refine wpList_load_obj 24 _ rfl rfl rfl X2'.out _ Try.underlying24 rfl (by kernel_rfl) ?_))
              go_roundw
              case rel => exact ⟨i + 1, nl + 1, c8, A8, by omega, by go_num, rfl, by rw [P1.out, HP.out, if_pos rfl, List.map_append, fl_app]; simpa [fl, HLB.out z] using o8, nw_of_gb NRV.out g8 hyq⟩
              case measure => simp only [intOf]; omega
          · have hie : i = j := by omega
            subst hie
            have hij2 : decide ((i : Int) < (i : Int)) = false := by simp
            have AL := Lib.hid hal; have NR := Lib.hid hnw
            clear hal hbo
            go_upto_region 22 with fail
            have hni : mL.length = i := HLN.out
            have hlive : ∀ q ∈ mL, q.st = 0 := by intro q hq; rw [HML.out, List.mem_map] at hq; obtain ⟨q', _, rfl⟩ := hq; rfl
            obtain ⟨all, hall⟩ : ∃ all, (picks (two i1 kk) mL i).map lab = all := ⟨_, rfl⟩
            have hnl : all.length = nl := by rw [← hall]; exact AL.out.lenL lc_len (by decide)
            have hnl2 : nl ≤ i := by rw [← hnl, ← hall, List.length_map]; exact picks_len ..
            have hal := AL.out.rd
            rw [hall] at hal
            have RN := R8.out.nw NR.out
            have HCH := choose_any (c := cl) hal (by
              intro z hz
              rw [← hall, List.mem_map] at hz
              obtain ⟨q, _, rfl⟩ := hz
              rw [← HLAB.out]
              exact ⟨RN.rd, RN.cap.1, RN.cap.2⟩) (Nat.le_refl _) (by omega) (by
              intro z hz
              rw [← hall, List.mem_map] at hz
              obtain ⟨q, _, rfl⟩ := hz
              rw [← HLAB.out]
              show i ≤ 1000000
              omega)
            have hpp : all ≠ [] ∧ all.filter rightB = all ∧ (∃ z, maxOf all = withM ⟨a, g + 1, m, b, some ⟨r5, 0, none⟩, i, c5, mN⟩ z) ∧ (∀ z, missL all (withM ⟨a, g + 1, m, b, some ⟨r5, 0, none⟩, i, c5, mN⟩ z) = [q2.id]) ∧ chooseE all = 0 := by
              have h2 := choose_failed (x := ⟨a, g + 1, m, b, some ⟨r5, 0, none⟩, i, c5, mN⟩) (right_rise HRR.out) (by rw [hni]; exact hj3) hlive HQ1.out HQ2.out HMN.out HRN.out HE.out
              simp only [hni, HLAB.out] at h2
              rw [hall] at h2
              rw [HLAB.out]
              exact h2
            unfold ChoosePost l0 lv at HCH
            have HQ : Calls Try.prog 12 #[.slice L nl cl] wr (fun e w' => Nw wr w' ∧ ∃ A6 n6 c6 g6 d6 m6, e = .returned (.tuple #[.agg #[.int .i64 a, .int .i64 (g + 1), .int .i64 m6, .int .i64 b, .slice A6 n6 c6], .slice (some ⟨g6, 0, none⟩) 1 d6, .int .i64 0]) ∧ Own w' wr.heap.size 3 1 (some ⟨g6, 0, none⟩) 1 d6 [.int .i64 q2.id]) := by
              refine HCH.mono ?_
              obtain ⟨_, h1', ⟨q, h2⟩, h3, h4⟩ := hpp
              rw [h4, h1', h2, h3 q]
              rintro e w' ⟨k, hp⟩
              rcases hp with ⟨h, _⟩ | ⟨_, A6, n6, c6, M, k6, d6, rfl, p1, p2⟩
              · exact absurd rfl h
              have hk : 1 = k6 := by have := p2.len; rw [Nat.mul_one] at this; exact this
              subst hk
              obtain ⟨g6, rfl, _⟩ := p2.some_ (by decide)
              exact ⟨k, A6, n6, c6, g6, d6, _, rfl, p2⟩
            have HQ' := Lib.hid HQ
            clear HQ HCH hal hpp hnl2 hnl hij2 hk4
            go_upto_region 23 with ((with_reducible refine HQ'.out.mono ?_); rintro e w9 ⟨k9, A6, n6, c6, g6, d6, m6, rfl, o9⟩)
            have gZ := World.grownBy_alloc w9 (.cells #[.int .i64 a, .int .i64 (g + 1), .int .i64 m6, .int .i64 b, .slice A6 n6 c6] 24) none
            have xz := Obj1.new w9 24 #[.int .i64 a, .int .i64 (g + 1), .int .i64 m6, .int .i64 b, .slice A6 n6 c6]
            obtain ⟨Z, hZ⟩ : ∃ Z, w9.alloc (.cells #[.int .i64 a, .int .i64 (g + 1), .int .i64 m6, .int .i64 b, .slice A6 n6 c6] 24) = Z := ⟨_, rfl⟩
            obtain ⟨z, hz⟩ : ∃ z, w9.heap.size = z := ⟨_, rfl⟩
            rw [hZ] at gZ xz
            rw [hz] at xz ⊢
            rw [hZ]
            have K8 := gb_trans NR.out (gb_trans k9 gZ)
            have XZ := Lib.hid xz; have KZ := Lib.hid K8; have O6 := Lib.hid (o9.nw gZ); have NZ := Lib.hid (gb_trans N8.out K8)
            have f1 : ∀ w', Nw Z w' → w'.cell? ⟨z, 1, none⟩ = some (.int .i64 (g + 1)) := fun w' k => (XZ.out.nw k).cell 1
            have f2 : ∀ w', Nw Z w' → w'.cell? ⟨x5, 1, none⟩ = some (.int .i64 (g + 1)) := fun w' k => (OB8.out.nw (gb_trans KZ.out k)).cell 1
            have f3 : ∀ w', Nw Z w' → w'.cell? ⟨g6, 0, none⟩ = some (.int .i64 q2.id) := fun w' k => by
              obtain ⟨u6, hu6, k6, _⟩ := (O6.out.nw k).cellAt (k := 0) (by decide)
              cases hu6
              exact k6
            have f4 : ∀ w', Nw Z w' → w'.cell? ⟨y, 4, none⟩ = some (.slice (some ⟨r, 0, none⟩) i c2) := fun w' k => (BX8.out.nw (gb_trans KZ.out k)).cell 4
            have f5 : ∀ w', Nw Z w' → w'.cell? ⟨r, kk * 3, none⟩ = some (.int .i64 q2.id) := fun w' k => (S8.out.nw (gb_trans KZ.out k)).atL mc_len (by decide) HQ2.out 0 _ rfl
            clear hZ hz xz gZ k9 o9 K8 HQ' hnw
            go_wp2_with fail
            refine wp_region_held (S := (fun w' => Nw Z w')) (by kernel_rfl) ?_
            change wpAnyH _ _ _ _ _ _ _ _ (World.drew Z)
            refine held_seg' (l := [0, 1, 2, 3, 4, 5, 6, 7, 8, 9, 10, 11, 12, 13, 14, 15, 16, 17, 18, 19, 20, 21, 22, 23, 24, 25, 26, 27, 28, 29]) (fuel := 0) rfl (by kernel_rfl) (by kernel_rfl) (by simp only [List.filterMap_cons, List.filterMap_nil, List.getElem?_toArray, List.getElem?_cons_succ, List.getElem?_cons_zero]; rfl) (fun _ _ d _ _ h => by cases d <;> exact h) (gb_drew (Nw.refl Z)) ?_
            iterate 30 (refine wpYield_step rfl (fun K hK => ?_)
                        apply Exists.intro
                        refine ⟨fun w' hw' => ?_, ?_⟩
                        · (go_simp; try with_reducible rfl)
                        go_simp
                        refine hK _ ?_
                        clear hK K)
            refine wpYield_nil ?_
            refine wpAnyH_done (by kernel_rfl) ?_ _
            go_wp2
            go_ret
            exact ⟨rfl, gb_trans NZ.out (gb_drew (Nw.refl Z))⟩
theorem failed_all {w : World} (x : Lb) (h : LIn w x) (p : Int) (hp : -9223372036854775808 ≤ p ∧ p ≤ 9223372036854775807) (q : Int) (hq : -9223372036854775808 ≤ q ∧ q ≤ 9223372036854775807) : Calls Try.prog 7 #[lv x, .int .i64 p, .int .i64 q] w (Ret (.bool true) w) := failed_walk h (Nat.le_refl _) p q hp hq
end Go.Proofs.Ytkkkhkkjdjnfhaa

