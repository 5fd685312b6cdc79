/- The Go function ModelPlays returns true for every int and slice of steps; without conditions. -/
import Derived.Test.YtblkdmnfmnbbeaaAA
namespace Go.Proofs.Ytblkdmnfmnbbeaa
open Go.RowKit Go.BW

def PlayRel (w : World) (ga gb N i : Nat) (wr : World) : Prop := ∃ M Fa Fb, Tr w wr ga M Fa (i + 1) gb Fb M [] ∧ M.length = N
theorem wrM_len (M : MB) (n : Int) (s : List UInt8) : (wrM M n s).length = M.length := by unfold wrM; split <;> simp
theorem seM_len (M : MB) (n : Int) (s : List UInt8) : (seM M n s).length = M.length := by unfold seM; split <;> simp
theorem oc_one (o : Op) : ∀ u ∈ oc o, u.oneCell' = true := by
  intro u hu
  unfold oc at hu
  rcases List.mem_cons.1 hu with rfl | hu
  · rfl
  rcases List.mem_cons.1 hu with rfl | hu
  · rfl
  · exact bv_one _ u hu
set_option maxRecDepth 100000 in
set_option maxHeartbeats 8000000 in
theorem plays_walk (n0 : Int) (_ : -9223372036854775808 ≤ n0 ∧ n0 ≤ 9223372036854775807) {w : World} (A : Option Addr) (n c : Nat) (l : List Op) (hin : InO w A n c l) :
    Calls Try.prog 6 #[.int .i64 n0, .slice A n c] w (Ret (.bool true) w) := by
  have HIN := Lib.hid hin
  have hnc := hin.2.1; have hcm := hin.2.2.1
  clear hin
  obtain ⟨N, hN⟩ : ∃ N, numN n0 = N := ⟨_, rfl⟩
  have hNb := numN_b n0
  have hnew := fun w => new_any n0 w
  have hrnew := fun w => rnew_any n0 w
  rw [hN] at hNb hnew hrnew
  have HNEW := Lib.hid hnew; have HRNEW := Lib.hid hrnew; clear hnew hrnew hN
  obtain ⟨i0, hi0, hz0, _⟩ := T22.info
  rw [z64_cells] at hz0
  have HZ := Lib.hid hz0; clear hz0
  have HI := Lib.hid hi0; clear hi0
  obtain ⟨i1, hi1, hz1, _⟩ := T36.info
  have HZ1 := Lib.hid hz1; clear hz1
  have HI1 := Lib.hid hi1; clear hi1
  go_enter Try.func6, Try.ntmps6
  go_wp2_with (first | ((with_reducible refine (shown_any _).mono ?_); rintro e w1 ⟨rfl, n1⟩; have N1 := Lib.hid n1; clear n1) |
    (refine (HRNEW.out _).mono ?_; rintro e w3 h1; obtain ⟨gb, Fb, rfl, t1⟩ := Tr.of_new S1.out.nw S1.out h1; have T3 := Lib.hid t1; clear t1 h1; unfold pv) |
    (refine (HNEW.out _).mono ?_; rintro e w2 h1; obtain ⟨ga, Fa, rfl, s1⟩ := St.of_new N1.out h1; have S1 := Lib.hid s1; clear s1 h1; unfold pv))
  have hcell : ∃ lb cb, ∀ w', Nw w3 w' → w'.cell? ⟨gb, 0, none⟩ = some (.slice (some ⟨lb, 0, none⟩) N cb) := by
    obtain ⟨lb, cb, xs, hr, hM, _⟩ := T3.out.b
    refine ⟨lb, cb, fun w' k => ?_⟩
    rw [(hr.obj.nw k).cell 0, show xs.length = N from by have := congrArg List.length hM; simpa using this.symm]
    rfl
  obtain ⟨lb, cb, hcell⟩ := hcell
  refine wp_region_held (S := (fun w' => Nw w3 w')) (by kernel_rfl) ?_
  change wpAnyH _ _ _ _ _ _ _ _ (World.drew w3)
  refine held_seg' (l := [0, 1, 2, 3, 4, 5, 6, 7, 9, 10, 11, 12, 13]) (fuel := 3) rfl (by kernel_rfl) (by kernel_rfl) (by simp only [List.filterMap_cons, List.filterMap_nil, List.getElem?_toArray, List.getElem?_cons_succ, List.getElem?_cons_zero]; rfl) (fun _ _ d _ _ h => by cases d <;> exact h) (gb_drew (Nw.refl w3)) ?_
  iterate 13 (refine wpYield_step rfl (fun K hK => ?_)
              apply Exists.intro
              refine ⟨fun w' hw' => ?_, ?_⟩
              · (go_simp; try with_reducible rfl)
              go_simp
              refine hK _ ?_
              clear hK K)
  refine wpYield_nil ?_
  refine held_eff 8 rfl (by kernel_rfl) rfl (fun K hK => ?_)
  go_simp
  refine (T3.out.a.nw (gb_drew (Nw.refl w3))).len.mono ?_
  rintro e w4 ⟨rfl, rfl⟩
  simp only [List.length_replicate]
  refine hK _ _ ⟨gb_drew (Nw.refl w3), ?_⟩
  clear hK K hcell
  refine held_seg' (l := [14, 15]) (fuel := 0) rfl (by kernel_rfl) (by kernel_rfl) (by simp only [List.filterMap_cons, List.filterMap_nil, List.getElem?_toArray, List.getElem?_cons_succ, List.getElem?_cons_zero]; rfl) (fun _ _ d _ _ h => by cases d <;> exact h) (gb_drew (Nw.refl w3)) ?_
  iterate 2 (refine wpYield_step rfl (fun K hK => ?_)
             apply Exists.intro
             refine ⟨fun w' hw' => ?_, ?_⟩
             · (go_simp; try with_reducible rfl)
             go_simp
             refine hK _ ?_
             clear hK K)
  refine wpYield_nil ?_
  refine wpAnyH_done (by kernel_rfl) ?_ _
  have T4 := Lib.hid (T3.out.more (gb_drew (Nw.refl w3)))
  generalize w3.drew = w4 at T4 ⊢
  go_wp2_with fail
  go_loopw [8] (fun i wr => ∃ i' : Nat, i = .int .i64 i' ∧ i' ≤ 200 ∧ i' ≤ n ∧ PlayRel w ga gb N i' wr) (fun i _ => 200 - (intOf i).toNat)
  case atStart => exact ⟨0, rfl, by omega, by omega, _, _, _, T4.out, by simp⟩
  case round =>
    obtain ⟨i, rfl, hi1, hi2, M, F5, G5, t5, lm⟩ := hrel
    have T5 := Lib.hid t5; have LM := Lib.hid lm; clear t5 lm
    by_cases hlt : i < n ∧ i < 200
    · obtain ⟨hlt1, hlt2⟩ := hlt
      obtain ⟨b, off, o, rfl, hx, ho, hcl⟩ := op_at HIN.out hlt1
      have HCL := Lib.hid hcl; have HO := Lib.hid ho; clear hcl ho hx
      have HB := Lib.hid (show ∀ b ∈ M, b.1.length ≤ 64064 from fun b hb => by have := rep_bound T5.out.a b hb; omega)
      obtain ⟨kd, hkd⟩ : ∃ kd, o.k = kd := ⟨_, rfl⟩
      obtain ⟨bk, hbk⟩ : ∃ bk, o.b = bk := ⟨_, rfl⟩
      have HKD := Lib.hid hkd; have HBK := Lib.hid hbk; clear hkd hbk
      have HOC := Lib.hid (show ∀ w' y, Obj1 w' y 43 (oc o).toArray → w'.cell? ⟨y, 0, none⟩ = some (.int .i64 kd) ∧ w'.cell? ⟨y, 1, none⟩ = some (.int .i64 bk) from fun w' y h => ⟨by rw [h.cell 0, ← HKD.out]; rfl, by rw [h.cell 1, ← HBK.out]; rfl⟩)
      rcases (show kd = 1 ∨ kd = 2 ∨ kd = 3 ∨ kd = 4 ∨ (kd ≠ 1 ∧ kd ≠ 2 ∧ kd ≠ 3 ∧ kd ≠ 4) from by omega) with h | h | h | h | ⟨h, h2, h3, h4⟩
      rotate_right
      · have b1 : (kd == 1) = false := by simpa using h
        have b2 : (kd == 2) = false := by simpa using h2
        have b3 : (kd == 3) = false := by simpa using h3
        have b4 : (kd == 4) = false := by simpa using h4
        clear h h2 h3 h4
        obtain ⟨rb, ri, hnw⟩ : ∃ rb ri, noV M bk = (rb, ri) := ⟨_, _, rfl⟩
        have HNW := Lib.hid hnw
        have LR := Lib.hid (show rb.length = 64 from by have := now_x_len T5.out.a bk; rw [hnw] at this; exact this)
        clear hnw
        go_wp2_with (first |
          (refine wpList_store_own (cs := rb.map bv) 27 _ _ rfl rfl rfl rfl rfl (i27.trans (by rw [List.length_map, LR.out])) (bv_one _) A14.out (by rw [List.length_map, LR.out]; decide) ?_; intro w15 c1 c2; have o6 := Own.row1 c1; rw [splice_all _ _ (by rw [List.length_map, LR.out, A14.out.len])] at o6; have OB15 := Lib.hid o6; have m15 := nw_of_gb N14.out c2 (by intro x e; injection e with e; subst e; exact Y14.out); have T15 := Lib.hid (T13.out.more m15); have OA15 := Lib.hid (OA13.out.nw m15); have OY15 := Lib.hid (OY13.out.nw m15); clear o6 c1 c2 m15) |
          (refine wpList_alloc (size := 64) 27 rfl rfl w.heap.size i0 HI.out HZ.out (by kernel_rfl) T13.out.nw.size ?_; intro y15 w14 a1 a2 a3; have A14 := Lib.hid a1; have N14 := Lib.hid a2; have Y14 := Lib.hid a3; clear a1 a2 a3) |
          (refine (rnow_x T12.out.b _ HNW.out).mono ?_; rintro e w13 ⟨rfl, n13⟩; have T13 := Lib.hid (T12.out.more n13); have OA13 := Lib.hid (OA12.out.nw n13); have OY13 := Lib.hid (OY12.out.nw n13); clear n13) |
          (refine wpList_store_own (cs := rb.map bv) 27 _ _ rfl rfl rfl rfl rfl (i27.trans (by rw [List.length_map, LR.out])) (bv_one _) A11.out (by rw [List.length_map, LR.out]; decide) ?_; intro w12 c1 c2; have o6 := Own.row1 c1; rw [splice_all _ _ (by rw [List.length_map, LR.out, A11.out.len])] at o6; have OA12 := Lib.hid o6; have m12 := nw_of_gb N11.out c2 (by intro x e; injection e with e; subst e; exact Y11.out); have T12 := Lib.hid (T10.out.more m12); have OY12 := Lib.hid (OY10.out.nw m12); obtain ⟨_, k1⟩ := HOC.out _ _ OY12.out; clear o6 c1 c2 m12) |
          (refine wpList_alloc (size := 64) 27 rfl rfl w.heap.size i0 HI.out HZ.out (by kernel_rfl) T10.out.nw.size ?_; intro y13 w11 a1 a2 a3; have A11 := Lib.hid a1; have N11 := Lib.hid a2; have Y11 := Lib.hid a3; clear a1 a2 a3) |
          (refine (now_x T8.out.a (by omega) _ HNW.out).mono ?_; rintro e w10 ⟨rfl, n10⟩; have T10 := Lib.hid (T8.out.more n10); have OY10 := Lib.hid (OY8.out.nw n10); clear n10) |
          (refine wpList_store_own (cs := oc o) 43 _ _ rfl rfl rfl rfl rfl (i43.trans (by rw [oc_len HO.out.2.2])) (oc_one _) A6.out (by rw [oc_len HO.out.2.2]; decide) ?_; intro w6 c1 c2; have o6 := Own.row1 c1; rw [splice_all _ _ (by rw [oc_len HO.out.2.2, A6.out.len])] at o6; have OY8 := Lib.hid o6; have T8 := Lib.hid (T5.out.addVar (nw_of_gb N6.out c2 (by intro x e; injection e with e; subst e; exact Y6.out)) Y6.out (show y < w6.heap.size from o6.lt)); obtain ⟨k0, k1⟩ := HOC.out _ _ o6; clear o6 c1 c2) |
          (refine wpList_alloc (size := 66) 43 rfl rfl w.heap.size i1 HI1.out HZ1.out (by kernel_rfl) T5.out.nw.size ?_; intro y w5 a1 a2 a3; have A6 := Lib.hid a1; have N6 := Lib.hid a2; have Y6 := Lib.hid a3; clear a1 a2 a3) |
          (refine wpList_load_agg 43 _ rfl rfl rfl (oc o) (HCL.out _ T5.out.nw) _ Try.underlying43 rfl (i43.trans (by rw [oc_len HO.out.2.2])) ?_))
        clear k0 k1
        have k1 : ∀ w', Nw w15 w' → w'.cell? ⟨y, 1, none⟩ = some (.int .i64 bk) := fun w' n' => (HOC.out _ _ (OY15.out.nw n')).2
        obtain ⟨q, hq⟩ : ∃ q, seV M bk o.s = q := ⟨_, rfl⟩
        have HMA := Lib.hid (fun (w' : World) (n' : Nw w15 w') => may_x (T15.out.a.nw n') (by omega) bk o.s HO.out.2.2)
        have HMB := Lib.hid (fun (w' : World) (n' : Nw w15 w') => rmay_x (T15.out.b.nw n') bk o.s HO.out.2.2)
        rw [hq] at HMA HMB
        clear hq
        unfold sv at HMA HMB
        unfold pv at HMA HMB
        refine wp_region_held (S := (fun w' => Nw w15 w')) (by kernel_rfl) ?_
        change wpAnyH _ _ _ _ _ _ _ _ (World.drew w15)
        refine held_seg' (l := [0, 1, 2, 3, 4, 5, 6, 7, 8, 9, 10, 11, 12, 13, 15, 16, 17, 18, 19]) (fuel := 4) rfl (by kernel_rfl) (by kernel_rfl) (by simp only [List.filterMap_cons, List.filterMap_nil, List.getElem?_toArray, List.getElem?_cons_succ, List.getElem?_cons_zero]; rfl) (fun _ _ d _ _ h => by cases d <;> exact h) (gb_drew (Nw.refl w15)) ?_
        refine wpYield_load_agg 27 _ rfl rfl rfl (rb.map bv) (fun w' hw' => load_of (OA15.out.nw hw')) _ Try.underlying27 rfl (i27.trans (by rw [List.length_map, LR.out])) ?_
        refine wpYield_load_agg 27 _ rfl rfl rfl (rb.map bv) (fun w' hw' => load_of (OB15.out.nw hw')) _ Try.underlying27 rfl (i27.trans (by rw [List.length_map, LR.out])) ?_
        refine wpYield_eq_arr true 27 _ 5 64 _ _ rfl rfl rb rb Try.underlying27 Try.underlying5 (by kernel_rfl) (by kernel_rfl) rfl rfl LR.out LR.out false (by simp) ?_
        iterate 10 (refine wpYield_step rfl (fun K hK => ?_)
                    apply Exists.intro
                    refine ⟨fun w' hw' => ?_, ?_⟩
                    · (go_simp; try with_reducible rfl)
                    go_simp
                    refine hK _ ?_
                    clear hK K)
        refine wpYield_load_agg 27 _ rfl rfl rfl (o.s.map bv) (fun w' hw' => op_load (OY15.out.nw hw')) _ Try.underlying27 rfl (i27.trans (by rw [List.length_map, HO.out.2.2])) ?_
        iterate 4 (refine wpYield_step rfl (fun K hK => ?_)
                   apply Exists.intro
                   refine ⟨fun w' hw' => ?_, ?_⟩
                   · (go_simp; try with_reducible rfl)
                   go_simp
                   refine hK _ ?_
                   clear hK K)
        refine wpYield_load_agg 27 _ rfl rfl rfl (o.s.map bv) (fun w' hw' => op_load (OY15.out.nw hw')) _ Try.underlying27 rfl (i27.trans (by rw [List.length_map, HO.out.2.2])) ?_
        refine wpYield_nil ?_
        refine held_eff 14 rfl (by kernel_rfl) rfl (fun K hK => ?_)
        go_simp
        refine (HMA.out _ (gb_drew (Nw.refl w15))).mono ?_
        rintro e w16 ⟨rfl, n16⟩
        refine hK _ _ ⟨gb_of_drew n16, ?_⟩
        clear hK K
        refine held_eff 20 rfl (by kernel_rfl) rfl (fun K hK => ?_)
        go_simp
        refine (HMB.out _ (gb_of_drew n16)).mono ?_
        rintro e w17 ⟨rfl, n17⟩
        refine hK _ _ ⟨gb_trans (gb_of_drew n16) n17, ?_⟩
        clear hK K
        refine held_seg' (l := [21, 22]) (fuel := 0) rfl (by kernel_rfl) (by kernel_rfl) (by simp only [List.filterMap_cons, List.filterMap_nil, List.getElem?_toArray, List.getElem?_cons_succ, List.getElem?_cons_zero]; rfl) (fun _ _ d _ _ h => by cases d <;> exact h) (gb_trans (gb_of_drew n16) n17) ?_
        iterate 2 (refine wpYield_step rfl (fun K hK => ?_)
                   apply Exists.intro
                   refine ⟨fun w' hw' => ?_, ?_⟩
                   · (go_simp; try with_reducible rfl)
                   go_simp
                   refine hK _ ?_
                   clear hK K)
        refine wpYield_nil ?_
        refine wpAnyH_done (by kernel_rfl) ?_ _
        have T17 := Lib.hid (T15.out.more (gb_trans (gb_of_drew n16) n17)); clear n16 n17 k1
        go_wp2
        exact ⟨⟨i + 1, by go_num, by omega, hlt1, _, _, _, T17.out.noVar.moreK (by omega), LM.out⟩, by simp [intOf]; omega⟩
      rotate_left
      · subst h
        obtain ⟨rb, ri, hnw⟩ : ∃ rb ri, noV (M.map flushB) bk = (rb, ri) := ⟨_, _, rfl⟩
        have HNW := Lib.hid hnw
        clear hnw
        go_wp2_with (first |
          (refine wpList_store_own (cs := rb.map bv) 27 _ _ rfl rfl rfl rfl rfl (i27.trans (by rw [List.length_map, LR.out])) (bv_one _) A14.out (by rw [List.length_map, LR.out]; decide) ?_; intro w15 c1 c2; have o6 := Own.row1 c1; rw [splice_all _ _ (by rw [List.length_map, LR.out, A14.out.len])] at o6; have OB15 := Lib.hid o6; have m15 := nw_of_gb N14.out c2 (by intro x e; injection e with e; subst e; exact Y14.out); have T15 := Lib.hid (T13.out.more m15); have OA15 := Lib.hid (OA13.out.nw m15); have OY15 := Lib.hid (OY13.out.nw m15); clear o6 c1 c2 m15) |
          (refine wpList_alloc (size := 64) 27 rfl rfl w.heap.size i0 HI.out HZ.out (by kernel_rfl) T13.out.nw.size ?_; intro y15 w14 a1 a2 a3; have A14 := Lib.hid a1; have N14 := Lib.hid a2; have Y14 := Lib.hid a3; clear a1 a2 a3) |
          (refine (rnow_x T12.out.b _ HNW.out).mono ?_; rintro e w13 ⟨rfl, n13⟩; have T13 := Lib.hid (T12.out.more n13); have OA13 := Lib.hid (OA12.out.nw n13); have OY13 := Lib.hid (OY12.out.nw n13); clear n13) |
          (refine wpList_store_own (cs := rb.map bv) 27 _ _ rfl rfl rfl rfl rfl (i27.trans (by rw [List.length_map, LR.out])) (bv_one _) A11.out (by rw [List.length_map, LR.out]; decide) ?_; intro w12 c1 c2; have o6 := Own.row1 c1; rw [splice_all _ _ (by rw [List.length_map, LR.out, A11.out.len])] at o6; have OA12 := Lib.hid o6; have m12 := nw_of_gb N11.out c2 (by intro x e; injection e with e; subst e; exact Y11.out); have T12 := Lib.hid (T10.out.more m12); have OY12 := Lib.hid (OY10.out.nw m12); obtain ⟨_, k1⟩ := HOC.out _ _ OY12.out; clear o6 c1 c2 m12) |
          (refine wpList_alloc (size := 64) 27 rfl rfl w.heap.size i0 HI.out HZ.out (by kernel_rfl) T10.out.nw.size ?_; intro y13 w11 a1 a2 a3; have A11 := Lib.hid a1; have N11 := Lib.hid a2; have Y11 := Lib.hid a3; clear a1 a2 a3) |
          (refine (now_x T8.out.a (by omega) _ HNW.out).mono ?_; rintro e w10 ⟨rfl, n10⟩; have T10 := Lib.hid (T8.out.more n10); have OY10 := Lib.hid (OY8.out.nw n10); clear n10) |
          (refine (rflush_any T7.out.b (by rw [LM.out]; omega)).mono ?_; intro e w8 h8; obtain ⟨rfl, G8, t8, k8⟩ := T7.out.stepB h8; have T8 := Lib.hid t8; have OY8 := Lib.hid (OY7.out.eq (k8 y (by simp))); have LR := Lib.hid (show rb.length = 64 from by have := now_x_len T8.out.a bk; rw [HNW.out] at this; exact this); obtain ⟨_, k1⟩ := HOC.out _ _ OY8.out; clear t8 k8 h8) |
          (refine (flush_any T6.out.a (by rw [LM.out]; omega) (by omega)).mono ?_; intro e w7 h7; obtain ⟨rfl, F7, t7, k7⟩ := T6.out.stepA h7; have T7 := Lib.hid t7; have OY7 := Lib.hid (OY6.out.eq (k7 y (by simp))); clear t7 k7 h7) |
          (refine wpList_store_own (cs := oc o) 43 _ _ rfl rfl rfl rfl rfl (i43.trans (by rw [oc_len HO.out.2.2])) (oc_one _) A6.out (by rw [oc_len HO.out.2.2]; decide) ?_; intro w6 c1 c2; have o6 := Own.row1 c1; rw [splice_all _ _ (by rw [oc_len HO.out.2.2, A6.out.len])] at o6; have OY6 := Lib.hid o6; have T6 := Lib.hid (T5.out.addVar (nw_of_gb N6.out c2 (by intro x e; injection e with e; subst e; exact Y6.out)) Y6.out (show y < w6.heap.size from o6.lt)); obtain ⟨k0, k1⟩ := HOC.out _ _ o6; clear o6 c1 c2) |
          (refine wpList_alloc (size := 66) 43 rfl rfl w.heap.size i1 HI1.out HZ1.out (by kernel_rfl) T5.out.nw.size ?_; intro y w5 a1 a2 a3; have A6 := Lib.hid a1; have N6 := Lib.hid a2; have Y6 := Lib.hid a3; clear a1 a2 a3) |
          (refine wpList_load_agg 43 _ rfl rfl rfl (oc o) (HCL.out _ T5.out.nw) _ Try.underlying43 rfl (i43.trans (by rw [oc_len HO.out.2.2])) ?_))
        clear k0 k1
        have k1 : ∀ w', Nw w15 w' → w'.cell? ⟨y, 1, none⟩ = some (.int .i64 bk) := fun w' n' => (HOC.out _ _ (OY15.out.nw n')).2
        obtain ⟨q, hq⟩ : ∃ q, seV (M.map flushB) bk o.s = q := ⟨_, rfl⟩
        have HMA := Lib.hid (fun (w' : World) (n' : Nw w15 w') => may_x (T15.out.a.nw n') (by omega) bk o.s HO.out.2.2)
        have HMB := Lib.hid (fun (w' : World) (n' : Nw w15 w') => rmay_x (T15.out.b.nw n') bk o.s HO.out.2.2)
        rw [hq] at HMA HMB
        clear hq
        unfold sv at HMA HMB
        unfold pv at HMA HMB
        refine wp_region_held (S := (fun w' => Nw w15 w')) (by kernel_rfl) ?_
        change wpAnyH _ _ _ _ _ _ _ _ (World.drew w15)
        refine held_seg' (l := [0, 1, 2, 3, 4, 5, 6, 7, 8, 9, 10, 11, 12, 13, 15, 16, 17, 18, 19]) (fuel := 4) rfl (by kernel_rfl) (by kernel_rfl) (by simp only [List.filterMap_cons, List.filterMap_nil, List.getElem?_toArray, List.getElem?_cons_succ, List.getElem?_cons_zero]; rfl) (fun _ _ d _ _ h => by cases d <;> exact h) (gb_drew (Nw.refl w15)) ?_
        refine wpYield_load_agg 27 _ rfl rfl rfl (rb.map bv) (fun w' hw' => load_of (OA15.out.nw hw')) _ Try.underlying27 rfl (i27.trans (by rw [List.length_map, LR.out])) ?_
        refine wpYield_load_agg 27 _ rfl rfl rfl (rb.map bv) (fun w' hw' => load_of (OB15.out.nw hw')) _ Try.underlying27 rfl (i27.trans (by rw [List.length_map, LR.out])) ?_
        refine wpYield_eq_arr true 27 _ 5 64 _ _ rfl rfl rb rb Try.underlying27 Try.underlying5 (by kernel_rfl) (by kernel_rfl) rfl rfl LR.out LR.out false (by simp) ?_
        iterate 10 (refine wpYield_step rfl (fun K hK => ?_)
                    apply Exists.intro
                    refine ⟨fun w' hw' => ?_, ?_⟩
                    · (go_simp; try with_reducible rfl)
                    go_simp
                    refine hK _ ?_
                    clear hK K)
        refine wpYield_load_agg 27 _ rfl rfl rfl (o.s.map bv) (fun w' hw' => op_load (OY15.out.nw hw')) _ Try.underlying27 rfl (i27.trans (by rw [List.length_map, HO.out.2.2])) ?_
        iterate 4 (refine wpYield_step rfl (fun K hK => ?_)
                   apply Exists.intro
                   refine ⟨fun w' hw' => ?_, ?_⟩
                   · (go_simp; try with_reducible rfl)
                   go_simp
                   refine hK _ ?_
                   clear hK K)
        refine wpYield_load_agg 27 _ rfl rfl rfl (o.s.map bv) (fun w' hw' => op_load (OY15.out.nw hw')) _ Try.underlying27 rfl (i27.trans (by rw [List.length_map, HO.out.2.2])) ?_
        refine wpYield_nil ?_
        refine held_eff 14 rfl (by kernel_rfl) rfl (fun K hK => ?_)
        go_simp
        refine (HMA.out _ (gb_drew (Nw.refl w15))).mono ?_
        rintro e w16 ⟨rfl, n16⟩
        refine hK _ _ ⟨gb_of_drew n16, ?_⟩
        clear hK K
        refine held_eff 20 rfl (by kernel_rfl) rfl (fun K hK => ?_)
        go_simp
        refine (HMB.out _ (gb_of_drew n16)).mono ?_
        rintro e w17 ⟨rfl, n17⟩
        refine hK _ _ ⟨gb_trans (gb_of_drew n16) n17, ?_⟩
        clear hK K
        refine held_seg' (l := [21, 22]) (fuel := 0) rfl (by kernel_rfl) (by kernel_rfl) (by simp only [List.filterMap_cons, List.filterMap_nil, List.getElem?_toArray, List.getElem?_cons_succ, List.getElem?_cons_zero]; rfl) (fun _ _ d _ _ h => by cases d <;> exact h) (gb_trans (gb_of_drew n16) n17) ?_
        iterate 2 (refine wpYield_step rfl (fun K hK => ?_)
                   apply Exists.intro
                   refine ⟨fun w' hw' => ?_, ?_⟩
                   · (go_simp; try with_reducible rfl)
                   go_simp
                   refine hK _ ?_
                   clear hK K)
        refine wpYield_nil ?_
        refine wpAnyH_done (by kernel_rfl) ?_ _
        have T17 := Lib.hid (T15.out.more (gb_trans (gb_of_drew n16) n17)); clear n16 n17 k1
        go_wp2
        exact ⟨⟨i + 1, by go_num, by omega, hlt1, _, _, _, T17.out.noVar.moreK (by omega), (by rw [List.length_map]; exact LM.out)⟩, by simp [intOf]; omega⟩
      · subst h
        obtain ⟨rb, ri, hnw⟩ : ∃ rb ri, noV (M.map fallB) bk = (rb, ri) := ⟨_, _, rfl⟩
        have HNW := Lib.hid hnw
        clear hnw
        go_wp2_with (first |
          (refine wpList_store_own (cs := rb.map bv) 27 _ _ rfl rfl rfl rfl rfl (i27.trans (by rw [List.length_map, LR.out])) (bv_one _) A14.out (by rw [List.length_map, LR.out]; decide) ?_; intro w15 c1 c2; have o6 := Own.row1 c1; rw [splice_all _ _ (by rw [List.length_map, LR.out, A14.out.len])] at o6; have OB15 := Lib.hid o6; have m15 := nw_of_gb N14.out c2 (by intro x e; injection e with e; subst e; exact Y14.out); have T15 := Lib.hid (T13.out.more m15); have OA15 := Lib.hid (OA13.out.nw m15); have OY15 := Lib.hid (OY13.out.nw m15); clear o6 c1 c2 m15) |
          (refine wpList_alloc (size := 64) 27 rfl rfl w.heap.size i0 HI.out HZ.out (by kernel_rfl) T13.out.nw.size ?_; intro y15 w14 a1 a2 a3; have A14 := Lib.hid a1; have N14 := Lib.hid a2; have Y14 := Lib.hid a3; clear a1 a2 a3) |
          (refine (rnow_x T12.out.b _ HNW.out).mono ?_; rintro e w13 ⟨rfl, n13⟩; have T13 := Lib.hid (T12.out.more n13); have OA13 := Lib.hid (OA12.out.nw n13); have OY13 := Lib.hid (OY12.out.nw n13); clear n13) |
          (refine wpList_store_own (cs := rb.map bv) 27 _ _ rfl rfl rfl rfl rfl (i27.trans (by rw [List.length_map, LR.out])) (bv_one _) A11.out (by rw [List.length_map, LR.out]; decide) ?_; intro w12 c1 c2; have o6 := Own.row1 c1; rw [splice_all _ _ (by rw [List.length_map, LR.out, A11.out.len])] at o6; have OA12 := Lib.hid o6; have m12 := nw_of_gb N11.out c2 (by intro x e; injection e with e; subst e; exact Y11.out); have T12 := Lib.hid (T10.out.more m12); have OY12 := Lib.hid (OY10.out.nw m12); obtain ⟨_, k1⟩ := HOC.out _ _ OY12.out; clear o6 c1 c2 m12) |
          (refine wpList_alloc (size := 64) 27 rfl rfl w.heap.size i0 HI.out HZ.out (by kernel_rfl) T10.out.nw.size ?_; intro y13 w11 a1 a2 a3; have A11 := Lib.hid a1; have N11 := Lib.hid a2; have Y11 := Lib.hid a3; clear a1 a2 a3) |
          (refine (now_x T8.out.a (by omega) _ HNW.out).mono ?_; rintro e w10 ⟨rfl, n10⟩; have T10 := Lib.hid (T8.out.more n10); have OY10 := Lib.hid (OY8.out.nw n10); clear n10) |
          (refine (rfall_any T7.out.b (by rw [LM.out]; omega)).mono ?_; intro e w8 h8; obtain ⟨rfl, G8, t8, k8⟩ := T7.out.stepB h8; have T8 := Lib.hid t8; have OY8 := Lib.hid (OY7.out.eq (k8 y (by simp))); have LR := Lib.hid (show rb.length = 64 from by have := now_x_len T8.out.a bk; rw [HNW.out] at this; exact this); obtain ⟨_, k1⟩ := HOC.out _ _ OY8.out; clear t8 k8 h8) |
          (refine (fall_any T6.out.a (by rw [LM.out]; omega)).mono ?_; intro e w7 h7; obtain ⟨rfl, F7, t7, k7⟩ := T6.out.stepA h7; have T7 := Lib.hid t7; have OY7 := Lib.hid (OY6.out.eq (k7 y (by simp))); clear t7 k7 h7) |
          (refine wpList_store_own (cs := oc o) 43 _ _ rfl rfl rfl rfl rfl (i43.trans (by rw [oc_len HO.out.2.2])) (oc_one _) A6.out (by rw [oc_len HO.out.2.2]; decide) ?_; intro w6 c1 c2; have o6 := Own.row1 c1; rw [splice_all _ _ (by rw [oc_len HO.out.2.2, A6.out.len])] at o6; have OY6 := Lib.hid o6; have T6 := Lib.hid (T5.out.addVar (nw_of_gb N6.out c2 (by intro x e; injection e with e; subst e; exact Y6.out)) Y6.out (show y < w6.heap.size from o6.lt)); obtain ⟨k0, k1⟩ := HOC.out _ _ o6; clear o6 c1 c2) |
          (refine wpList_alloc (size := 66) 43 rfl rfl w.heap.size i1 HI1.out HZ1.out (by kernel_rfl) T5.out.nw.size ?_; intro y w5 a1 a2 a3; have A6 := Lib.hid a1; have N6 := Lib.hid a2; have Y6 := Lib.hid a3; clear a1 a2 a3) |
          (refine wpList_load_agg 43 _ rfl rfl rfl (oc o) (HCL.out _ T5.out.nw) _ Try.underlying43 rfl (i43.trans (by rw [oc_len HO.out.2.2])) ?_))
        clear k0 k1
        have k1 : ∀ w', Nw w15 w' → w'.cell? ⟨y, 1, none⟩ = some (.int .i64 bk) := fun w' n' => (HOC.out _ _ (OY15.out.nw n')).2
        obtain ⟨q, hq⟩ : ∃ q, seV (M.map fallB) bk o.s = q := ⟨_, rfl⟩
        have HMA := Lib.hid (fun (w' : World) (n' : Nw w15 w') => may_x (T15.out.a.nw n') (by omega) bk o.s HO.out.2.2)
        have HMB := Lib.hid (fun (w' : World) (n' : Nw w15 w') => rmay_x (T15.out.b.nw n') bk o.s HO.out.2.2)
        rw [hq] at HMA HMB
        clear hq
        unfold sv at HMA HMB
        unfold pv at HMA HMB
        refine wp_region_held (S := (fun w' => Nw w15 w')) (by kernel_rfl) ?_
        change wpAnyH _ _ _ _ _ _ _ _ (World.drew w15)
        refine held_seg' (l := [0, 1, 2, 3, 4, 5, 6, 7, 8, 9, 10, 11, 12, 13, 15, 16, 17, 18, 19]) (fuel := 4) rfl (by kernel_rfl) (by kernel_rfl) (by simp only [List.filterMap_cons, List.filterMap_nil, List.getElem?_toArray, List.getElem?_cons_succ, List.getElem?_cons_zero]; rfl) (fun _ _ d _ _ h => by cases d <;> exact h) (gb_drew (Nw.refl w15)) ?_
        refine wpYield_load_agg 27 _ rfl rfl rfl (rb.map bv) (fun w' hw' => load_of (OA15.out.nw hw')) _ Try.underlying27 rfl (i27.trans (by rw [List.length_map, LR.out])) ?_
        refine wpYield_load_agg 27 _ rfl rfl rfl (rb.map bv) (fun w' hw' => load_of (OB15.out.nw hw')) _ Try.underlying27 rfl (i27.trans (by rw [List.length_map, LR.out])) ?_
        refine wpYield_eq_arr true 27 _ 5 64 _ _ rfl rfl rb rb Try.underlying27 Try.underlying5 (by kernel_rfl) (by kernel_rfl) rfl rfl LR.out LR.out false (by simp) ?_
        iterate 10 (refine wpYield_step rfl (fun K hK => ?_)
                    apply Exists.intro
                    refine ⟨fun w' hw' => ?_, ?_⟩
                    · (go_simp; try with_reducible rfl)
                    go_simp
                    refine hK _ ?_
                    clear hK K)
        refine wpYield_load_agg 27 _ rfl rfl rfl (o.s.map bv) (fun w' hw' => op_load (OY15.out.nw hw')) _ Try.underlying27 rfl (i27.trans (by rw [List.length_map, HO.out.2.2])) ?_
        iterate 4 (refine wpYield_step rfl (fun K hK => ?_)
                   apply Exists.intro
                   refine ⟨fun w' hw' => ?_, ?_⟩
                   · (go_simp; try with_reducible rfl)
                   go_simp
                   refine hK _ ?_
                   clear hK K)
        refine wpYield_load_agg 27 _ rfl rfl rfl (o.s.map bv) (fun w' hw' => op_load (OY15.out.nw hw')) _ Try.underlying27 rfl (i27.trans (by rw [List.length_map, HO.out.2.2])) ?_
        refine wpYield_nil ?_
        refine held_eff 14 rfl (by kernel_rfl) rfl (fun K hK => ?_)
        go_simp
        refine (HMA.out _ (gb_drew (Nw.refl w15))).mono ?_
        rintro e w16 ⟨rfl, n16⟩
        refine hK _ _ ⟨gb_of_drew n16, ?_⟩
        clear hK K
        refine held_eff 20 rfl (by kernel_rfl) rfl (fun K hK => ?_)
        go_simp
        refine (HMB.out _ (gb_of_drew n16)).mono ?_
        rintro e w17 ⟨rfl, n17⟩
        refine hK _ _ ⟨gb_trans (gb_of_drew n16) n17, ?_⟩
        clear hK K
        refine held_seg' (l := [21, 22]) (fuel := 0) rfl (by kernel_rfl) (by kernel_rfl) (by simp only [List.filterMap_cons, List.filterMap_nil, List.getElem?_toArray, List.getElem?_cons_succ, List.getElem?_cons_zero]; rfl) (fun _ _ d _ _ h => by cases d <;> exact h) (gb_trans (gb_of_drew n16) n17) ?_
        iterate 2 (refine wpYield_step rfl (fun K hK => ?_)
                   apply Exists.intro
                   refine ⟨fun w' hw' => ?_, ?_⟩
                   · (go_simp; try with_reducible rfl)
                   go_simp
                   refine hK _ ?_
                   clear hK K)
        refine wpYield_nil ?_
        refine wpAnyH_done (by kernel_rfl) ?_ _
        have T17 := Lib.hid (T15.out.more (gb_trans (gb_of_drew n16) n17)); clear n16 n17 k1
        go_wp2
        exact ⟨⟨i + 1, by go_num, by omega, hlt1, _, _, _, T17.out.noVar.moreK (by omega), (by rw [List.length_map]; exact LM.out)⟩, by simp [intOf]; omega⟩
      · subst h
        obtain ⟨rb, ri, hnw⟩ : ∃ rb ri, noV (seM M bk o.s) bk = (rb, ri) := ⟨_, _, rfl⟩
        have HNW := Lib.hid hnw
        clear hnw
        go_wp2_with (first |
          (refine wpList_store_own (cs := oc o) 43 _ _ rfl rfl rfl rfl rfl (i43.trans (by rw [oc_len HO.out.2.2])) (oc_one _) A6.out (by rw [oc_len HO.out.2.2]; decide) ?_; intro w6 c1 c2; have o6 := Own.row1 c1; rw [splice_all _ _ (by rw [oc_len HO.out.2.2, A6.out.len])] at o6; have OY6 := Lib.hid o6; have T6 := Lib.hid (T5.out.addVar (nw_of_gb N6.out c2 (by intro x e; injection e with e; subst e; exact Y6.out)) Y6.out (show y < w6.heap.size from o6.lt)); obtain ⟨k0, k1⟩ := HOC.out _ _ o6; clear o6 c1 c2) |
          (refine wpList_alloc (size := 66) 43 rfl rfl w.heap.size i1 HI1.out HZ1.out (by kernel_rfl) T5.out.nw.size ?_; intro y w5 a1 a2 a3; have A6 := Lib.hid a1; have N6 := Lib.hid a2; have Y6 := Lib.hid a3; clear a1 a2 a3) |
          (refine wpList_load_agg 43 _ rfl rfl rfl (oc o) (HCL.out _ T5.out.nw) _ Try.underlying43 rfl (i43.trans (by rw [oc_len HO.out.2.2])) ?_))
        clear k0 k1
        have k1 : ∀ w', Obj1 w' y 43 (oc o).toArray → w'.cell? ⟨y, 1, none⟩ = some (.int .i64 bk) := fun w' h => (HOC.out _ _ h).2
        refine wp_region_held (S := (fun w' => Obj1 w' y 43 (oc o).toArray)) (by kernel_rfl) ?_
        change wpAnyH _ _ _ _ _ _ _ _ (World.drew w6)
        refine held_seg' (l := [0, 1, 2, 3, 4, 6, 7, 8, 9, 10]) (fuel := 3) rfl (by kernel_rfl) (by kernel_rfl) (by simp only [List.filterMap_cons, List.filterMap_nil, List.getElem?_toArray, List.getElem?_cons_succ, List.getElem?_cons_zero]; rfl) (fun _ _ d _ _ h => by cases d <;> exact h) OY6.out ?_
        iterate 4 (refine wpYield_step rfl (fun K hK => ?_)
                   apply Exists.intro
                   refine ⟨fun w' hw' => ?_, ?_⟩
                   · (go_simp; try with_reducible rfl)
                   go_simp
                   refine hK _ ?_
                   clear hK K)
        refine wpYield_load_agg 27 _ rfl rfl rfl (o.s.map bv) (fun w' hw' => op_load hw') _ Try.underlying27 rfl (i27.trans (by rw [List.length_map, HO.out.2.2])) ?_
        iterate 4 (refine wpYield_step rfl (fun K hK => ?_)
                   apply Exists.intro
                   refine ⟨fun w' hw' => ?_, ?_⟩
                   · (go_simp; try with_reducible rfl)
                   go_simp
                   refine hK _ ?_
                   clear hK K)
        refine wpYield_load_agg 27 _ rfl rfl rfl (o.s.map bv) (fun w' hw' => op_load hw') _ Try.underlying27 rfl (i27.trans (by rw [List.length_map, HO.out.2.2])) ?_
        refine wpYield_nil ?_
        refine held_eff 5 rfl (by kernel_rfl) rfl (fun K hK => ?_)
        go_simp
        refine (settle_x (T6.out.more (gb_drew (Nw.refl w6))).a (by omega) bk o.s HO.out.2.2).mono ?_
        intro e w7 h7
        obtain ⟨rfl, F7, t7, k7⟩ := (T6.out.more (gb_drew (Nw.refl w6))).stepA h7
        have T7 := Lib.hid t7; have OY7 := Lib.hid (show Obj1 w7 y 43 (oc o).toArray from OY6.out.eq (k7 y (by simp))); clear t7 k7 h7
        refine hK _ _ ⟨OY7.out, ?_⟩
        clear hK K
        refine held_eff 11 rfl (by kernel_rfl) rfl (fun K hK => ?_)
        go_simp
        refine (rsettle_x T7.out.b bk o.s HO.out.2.2).mono ?_
        intro e w8 h8
        obtain ⟨rfl, G8, t8, k8⟩ := T7.out.stepB h8
        have T8 := Lib.hid t8; have OY8 := Lib.hid (OY7.out.eq (k8 y (by simp))); clear t8 k8 h8
        refine hK _ _ ⟨OY8.out, ?_⟩
        clear hK K
        refine held_seg' (l := [12]) (fuel := 0) rfl (by kernel_rfl) (by kernel_rfl) (by simp only [List.filterMap_cons, List.filterMap_nil, List.getElem?_toArray, List.getElem?_cons_succ, List.getElem?_cons_zero]; rfl) (fun _ _ d _ _ h => by cases d <;> exact h) OY8.out ?_
        (refine wpYield_step rfl (fun K hK => ?_)
         apply Exists.intro
         refine ⟨fun w' hw' => ?_, ?_⟩
         · (go_simp; try with_reducible rfl)
         go_simp
         refine hK _ ?_
         clear hK K)
        refine wpYield_nil ?_
        refine wpAnyH_done (by kernel_rfl) ?_ _
        have LR := Lib.hid (show rb.length = 64 from by have := now_x_len T8.out.a bk; rw [HNW.out] at this; exact this)
        clear k1
        obtain ⟨k0, k1⟩ := HOC.out _ _ OY8.out
        go_wp2_with (first |
          (refine wpList_store_own (cs := rb.map bv) 27 _ _ rfl rfl rfl rfl rfl (i27.trans (by rw [List.length_map, LR.out])) (bv_one _) A14.out (by rw [List.length_map, LR.out]; decide) ?_; intro w15 c1 c2; have o6 := Own.row1 c1; rw [splice_all _ _ (by rw [List.length_map, LR.out, A14.out.len])] at o6; have OB15 := Lib.hid o6; have m15 := nw_of_gb N14.out c2 (by intro x e; injection e with e; subst e; exact Y14.out); have T15 := Lib.hid (T13.out.more m15); have OA15 := Lib.hid (OA13.out.nw m15); have OY15 := Lib.hid (OY13.out.nw m15); clear o6 c1 c2 m15) |
          (refine wpList_alloc (size := 64) 27 rfl rfl w.heap.size i0 HI.out HZ.out (by kernel_rfl) T13.out.nw.size ?_; intro y15 w14 a1 a2 a3; have A14 := Lib.hid a1; have N14 := Lib.hid a2; have Y14 := Lib.hid a3; clear a1 a2 a3) |
          (refine (rnow_x T12.out.b _ HNW.out).mono ?_; rintro e w13 ⟨rfl, n13⟩; have T13 := Lib.hid (T12.out.more n13); have OA13 := Lib.hid (OA12.out.nw n13); have OY13 := Lib.hid (OY12.out.nw n13); clear n13) |
          (refine wpList_store_own (cs := rb.map bv) 27 _ _ rfl rfl rfl rfl rfl (i27.trans (by rw [List.length_map, LR.out])) (bv_one _) A11.out (by rw [List.length_map, LR.out]; decide) ?_; intro w12 c1 c2; have o6 := Own.row1 c1; rw [splice_all _ _ (by rw [List.length_map, LR.out, A11.out.len])] at o6; have OA12 := Lib.hid o6; have m12 := nw_of_gb N11.out c2 (by intro x e; injection e with e; subst e; exact Y11.out); have T12 := Lib.hid (T10.out.more m12); have OY12 := Lib.hid (OY10.out.nw m12); obtain ⟨_, k1⟩ := HOC.out _ _ OY12.out; clear o6 c1 c2 m12) |
          (refine wpList_alloc (size := 64) 27 rfl rfl w.heap.size i0 HI.out HZ.out (by kernel_rfl) T10.out.nw.size ?_; intro y13 w11 a1 a2 a3; have A11 := Lib.hid a1; have N11 := Lib.hid a2; have Y11 := Lib.hid a3; clear a1 a2 a3) |
          (refine (now_x T8.out.a (by omega) _ HNW.out).mono ?_; rintro e w10 ⟨rfl, n10⟩; have T10 := Lib.hid (T8.out.more n10); have OY10 := Lib.hid (OY8.out.nw n10); clear n10))
        clear k0 k1
        have k1 : ∀ w', Nw w15 w' → w'.cell? ⟨y, 1, none⟩ = some (.int .i64 bk) := fun w' n' => (HOC.out _ _ (OY15.out.nw n')).2
        obtain ⟨q, hq⟩ : ∃ q, seV (seM M bk o.s) bk o.s = q := ⟨_, rfl⟩
        have HMA := Lib.hid (fun (w' : World) (n' : Nw w15 w') => may_x (T15.out.a.nw n') (by omega) bk o.s HO.out.2.2)
        have HMB := Lib.hid (fun (w' : World) (n' : Nw w15 w') => rmay_x (T15.out.b.nw n') bk o.s HO.out.2.2)
        rw [hq] at HMA HMB
        clear hq
        unfold sv at HMA HMB
        unfold pv at HMA HMB
        refine wp_region_held (S := (fun w' => Nw w15 w')) (by kernel_rfl) ?_
        change wpAnyH _ _ _ _ _ _ _ _ (World.drew w15)
        refine held_seg' (l := [0, 1, 2, 3, 4, 5, 6, 7, 8, 9, 10, 11, 12, 13, 15, 16, 17, 18, 19]) (fuel := 4) rfl (by kernel_rfl) (by kernel_rfl) (by simp only [List.filterMap_cons, List.filterMap_nil, List.getElem?_toArray, List.getElem?_cons_succ, List.getElem?_cons_zero]; rfl) (fun _ _ d _ _ h => by cases d <;> exact h) (gb_drew (Nw.refl w15)) ?_
        refine wpYield_load_agg 27 _ rfl rfl rfl (rb.map bv) (fun w' hw' => load_of (OA15.out.nw hw')) _ Try.underlying27 rfl (i27.trans (by rw [List.length_map, LR.out])) ?_
        refine wpYield_load_agg 27 _ rfl rfl rfl (rb.map bv) (fun w' hw' => load_of (OB15.out.nw hw')) _ Try.underlying27 rfl (i27.trans (by rw [List.length_map, LR.out])) ?_
        refine wpYield_eq_arr true 27 _ 5 64 _ _ rfl rfl rb rb Try.underlying27 Try.underlying5 (by kernel_rfl) (by kernel_rfl) rfl rfl LR.out LR.out false (by simp) ?_
        iterate 10 (refine wpYield_step rfl (fun K hK => ?_)
                    apply Exists.intro
                    refine ⟨fun w' hw' => ?_, ?_⟩
                    · (go_simp; try with_reducible rfl)
                    go_simp
                    refine hK _ ?_
                    clear hK K)
        refine wpYield_load_agg 27 _ rfl rfl rfl (o.s.map bv) (fun w' hw' => op_load (OY15.out.nw hw')) _ Try.underlying27 rfl (i27.trans (by rw [List.length_map, HO.out.2.2])) ?_
        iterate 4 (refine wpYield_step rfl (fun K hK => ?_)
                   apply Exists.intro
                   refine ⟨fun w' hw' => ?_, ?_⟩
                   · (go_simp; try with_reducible rfl)
                   go_simp
                   refine hK _ ?_
                   clear hK K)
        refine wpYield_load_agg 27 _ rfl rfl rfl (o.s.map bv) (fun w' hw' => op_load (OY15.out.nw hw')) _ Try.underlying27 rfl (i27.trans (by rw [List.length_map, HO.out.2.2])) ?_
        refine wpYield_nil ?_
        refine held_eff 14 rfl (by kernel_rfl) rfl (fun K hK => ?_)
        go_simp
        refine (HMA.out _ (gb_drew (Nw.refl w15))).mono ?_
        rintro e w16 ⟨rfl, n16⟩
        refine hK _ _ ⟨gb_of_drew n16, ?_⟩
        clear hK K
        refine held_eff 20 rfl (by kernel_rfl) rfl (fun K hK => ?_)
        go_simp
        refine (HMB.out _ (gb_of_drew n16)).mono ?_
        rintro e w17 ⟨rfl, n17⟩
        refine hK _ _ ⟨gb_trans (gb_of_drew n16) n17, ?_⟩
        clear hK K
        refine held_seg' (l := [21, 22]) (fuel := 0) rfl (by kernel_rfl) (by kernel_rfl) (by simp only [List.filterMap_cons, List.filterMap_nil, List.getElem?_toArray, List.getElem?_cons_succ, List.getElem?_cons_zero]; rfl) (fun _ _ d _ _ h => by cases d <;> exact h) (gb_trans (gb_of_drew n16) n17) ?_
        iterate 2 (refine wpYield_step rfl (fun K hK => ?_)
                   apply Exists.intro
                   refine ⟨fun w' hw' => ?_, ?_⟩
                   · (go_simp; try with_reducible rfl)
                   go_simp
                   refine hK _ ?_
                   clear hK K)
        refine wpYield_nil ?_
        refine wpAnyH_done (by kernel_rfl) ?_ _
        have T17 := Lib.hid (T15.out.more (gb_trans (gb_of_drew n16) n17)); clear n16 n17 k1
        go_wp2
        exact ⟨⟨i + 1, by go_num, by omega, hlt1, _, _, _, T17.out.noVar.moreK (by omega), (by rw [show (seM M bk o.s).length = M.length from seM_len _ _ _]; exact LM.out)⟩, by simp [intOf]; omega⟩
      · subst h
        obtain ⟨rb, ri, hnw⟩ : ∃ rb ri, noV (wrM M bk o.s) bk = (rb, ri) := ⟨_, _, rfl⟩
        have HNW := Lib.hid hnw
        clear hnw
        go_wp2_with (first |
          (refine wpList_store_own (cs := oc o) 43 _ _ rfl rfl rfl rfl rfl (i43.trans (by rw [oc_len HO.out.2.2])) (oc_one _) A6.out (by rw [oc_len HO.out.2.2]; decide) ?_; intro w6 c1 c2; have o6 := Own.row1 c1; rw [splice_all _ _ (by rw [oc_len HO.out.2.2, A6.out.len])] at o6; have OY6 := Lib.hid o6; have T6 := Lib.hid (T5.out.addVar (nw_of_gb N6.out c2 (by intro x e; injection e with e; subst e; exact Y6.out)) Y6.out (show y < w6.heap.size from o6.lt)); obtain ⟨k0, k1⟩ := HOC.out _ _ o6; clear o6 c1 c2) |
          (refine wpList_alloc (size := 66) 43 rfl rfl w.heap.size i1 HI1.out HZ1.out (by kernel_rfl) T5.out.nw.size ?_; intro y w5 a1 a2 a3; have A6 := Lib.hid a1; have N6 := Lib.hid a2; have Y6 := Lib.hid a3; clear a1 a2 a3) |
          (refine wpList_load_agg 43 _ rfl rfl rfl (oc o) (HCL.out _ T5.out.nw) _ Try.underlying43 rfl (i43.trans (by rw [oc_len HO.out.2.2])) ?_))
        clear k0 k1
        have k1 : ∀ w', Obj1 w' y 43 (oc o).toArray → w'.cell? ⟨y, 1, none⟩ = some (.int .i64 bk) := fun w' h => (HOC.out _ _ h).2
        refine wp_region_held (S := (fun w' => Obj1 w' y 43 (oc o).toArray)) (by kernel_rfl) ?_
        change wpAnyH _ _ _ _ _ _ _ _ (World.drew w6)
        refine held_seg' (l := [0, 1, 2, 3, 4, 6, 7, 8, 9, 10]) (fuel := 3) rfl (by kernel_rfl) (by kernel_rfl) (by simp only [List.filterMap_cons, List.filterMap_nil, List.getElem?_toArray, List.getElem?_cons_succ, List.getElem?_cons_zero]; rfl) (fun _ _ d _ _ h => by cases d <;> exact h) OY6.out ?_
        iterate 4 (refine wpYield_step rfl (fun K hK => ?_)
                   apply Exists.intro
                   refine ⟨fun w' hw' => ?_, ?_⟩
                   · (go_simp; try with_reducible rfl)
                   go_simp
                   refine hK _ ?_
                   clear hK K)
        refine wpYield_load_agg 27 _ rfl rfl rfl (o.s.map bv) (fun w' hw' => op_load hw') _ Try.underlying27 rfl (i27.trans (by rw [List.length_map, HO.out.2.2])) ?_
        iterate 4 (refine wpYield_step rfl (fun K hK => ?_)
                   apply Exists.intro
                   refine ⟨fun w' hw' => ?_, ?_⟩
                   · (go_simp; try with_reducible rfl)
                   go_simp
                   refine hK _ ?_
                   clear hK K)
        refine wpYield_load_agg 27 _ rfl rfl rfl (o.s.map bv) (fun w' hw' => op_load hw') _ Try.underlying27 rfl (i27.trans (by rw [List.length_map, HO.out.2.2])) ?_
        refine wpYield_nil ?_
        refine held_eff 5 rfl (by kernel_rfl) rfl (fun K hK => ?_)
        go_simp
        refine (write_x (T6.out.more (gb_drew (Nw.refl w6))).a (by omega) bk o.s HO.out.2.2).mono ?_
        intro e w7 h7
        obtain ⟨rfl, F7, t7, k7⟩ := (T6.out.more (gb_drew (Nw.refl w6))).stepA h7
        have T7 := Lib.hid t7; have OY7 := Lib.hid (show Obj1 w7 y 43 (oc o).toArray from OY6.out.eq (k7 y (by simp))); clear t7 k7 h7
        refine hK _ _ ⟨OY7.out, ?_⟩
        clear hK K
        refine held_eff 11 rfl (by kernel_rfl) rfl (fun K hK => ?_)
        go_simp
        refine (rwrite_x T7.out.b HB.out bk o.s HO.out.2.2).mono ?_
        intro e w8 h8
        obtain ⟨rfl, G8, t8, k8⟩ := T7.out.stepB h8
        have T8 := Lib.hid t8; have OY8 := Lib.hid (OY7.out.eq (k8 y (by simp))); clear t8 k8 h8
        refine hK _ _ ⟨OY8.out, ?_⟩
        clear hK K
        refine held_seg' (l := [12]) (fuel := 0) rfl (by kernel_rfl) (by kernel_rfl) (by simp only [List.filterMap_cons, List.filterMap_nil, List.getElem?_toArray, List.getElem?_cons_succ, List.getElem?_cons_zero]; rfl) (fun _ _ d _ _ h => by cases d <;> exact h) OY8.out ?_
        (refine wpYield_step rfl (fun K hK => ?_)
         apply Exists.intro
         refine ⟨fun w' hw' => ?_, ?_⟩
         · (go_simp; try with_reducible rfl)
         go_simp
         refine hK _ ?_
         clear hK K)
        refine wpYield_nil ?_
        refine wpAnyH_done (by kernel_rfl) ?_ _
        have LR := Lib.hid (show rb.length = 64 from by have := now_x_len T8.out.a bk; rw [HNW.out] at this; exact this)
        clear k1
        obtain ⟨k0, k1⟩ := HOC.out _ _ OY8.out
        go_wp2_with (first |
          (refine wpList_store_own (cs := rb.map bv) 27 _ _ rfl rfl rfl rfl rfl (i27.trans (by rw [List.length_map, LR.out])) (bv_one _) A14.out (by rw [List.length_map, LR.out]; decide) ?_; intro w15 c1 c2; have o6 := Own.row1 c1; rw [splice_all _ _ (by rw [List.length_map, LR.out, A14.out.len])] at o6; have OB15 := Lib.hid o6; have m15 := nw_of_gb N14.out c2 (by intro x e; injection e with e; subst e; exact Y14.out); have T15 := Lib.hid (T13.out.more m15); have OA15 := Lib.hid (OA13.out.nw m15); have OY15 := Lib.hid (OY13.out.nw m15); clear o6 c1 c2 m15) |
          (refine wpList_alloc (size := 64) 27 rfl rfl w.heap.size i0 HI.out HZ.out (by kernel_rfl) T13.out.nw.size ?_; intro y15 w14 a1 a2 a3; have A14 := Lib.hid a1; have N14 := Lib.hid a2; have Y14 := Lib.hid a3; clear a1 a2 a3) |
          (refine (rnow_x T12.out.b _ HNW.out).mono ?_; rintro e w13 ⟨rfl, n13⟩; have T13 := Lib.hid (T12.out.more n13); have OA13 := Lib.hid (OA12.out.nw n13); have OY13 := Lib.hid (OY12.out.nw n13); clear n13) |
          (refine wpList_store_own (cs := rb.map bv) 27 _ _ rfl rfl rfl rfl rfl (i27.trans (by rw [List.length_map, LR.out])) (bv_one _) A11.out (by rw [List.length_map, LR.out]; decide) ?_; intro w12 c1 c2; have o6 := Own.row1 c1; rw [splice_all _ _ (by rw [List.length_map, LR.out, A11.out.len])] at o6; have OA12 := Lib.hid o6; have m12 := nw_of_gb N11.out c2 (by intro x e; injection e with e; subst e; exact Y11.out); have T12 := Lib.hid (T10.out.more m12); have OY12 := Lib.hid (OY10.out.nw m12); obtain ⟨_, k1⟩ := HOC.out _ _ OY12.out; clear o6 c1 c2 m12) |
          (refine wpList_alloc (size := 64) 27 rfl rfl w.heap.size i0 HI.out HZ.out (by kernel_rfl) T10.out.nw.size ?_; intro y13 w11 a1 a2 a3; have A11 := Lib.hid a1; have N11 := Lib.hid a2; have Y11 := Lib.hid a3; clear a1 a2 a3) |
          (refine (now_x T8.out.a (by omega) _ HNW.out).mono ?_; rintro e w10 ⟨rfl, n10⟩; have T10 := Lib.hid (T8.out.more n10); have OY10 := Lib.hid (OY8.out.nw n10); clear n10))
        clear k0 k1
        have k1 : ∀ w', Nw w15 w' → w'.cell? ⟨y, 1, none⟩ = some (.int .i64 bk) := fun w' n' => (HOC.out _ _ (OY15.out.nw n')).2
        obtain ⟨q, hq⟩ : ∃ q, seV (wrM M bk o.s) bk o.s = q := ⟨_, rfl⟩
        have HMA := Lib.hid (fun (w' : World) (n' : Nw w15 w') => may_x (T15.out.a.nw n') (by omega) bk o.s HO.out.2.2)
        have HMB := Lib.hid (fun (w' : World) (n' : Nw w15 w') => rmay_x (T15.out.b.nw n') bk o.s HO.out.2.2)
        rw [hq] at HMA HMB
        clear hq
        unfold sv at HMA HMB
        unfold pv at HMA HMB
        refine wp_region_held (S := (fun w' => Nw w15 w')) (by kernel_rfl) ?_
        change wpAnyH _ _ _ _ _ _ _ _ (World.drew w15)
        refine held_seg' (l := [0, 1, 2, 3, 4, 5, 6, 7, 8, 9, 10, 11, 12, 13, 15, 16, 17, 18, 19]) (fuel := 4) rfl (by kernel_rfl) (by kernel_rfl) (by simp only [List.filterMap_cons, List.filterMap_nil, List.getElem?_toArray, List.getElem?_cons_succ, List.getElem?_cons_zero]; rfl) (fun _ _ d _ _ h => by cases d <;> exact h) (gb_drew (Nw.refl w15)) ?_
        refine wpYield_load_agg 27 _ rfl rfl rfl (rb.map bv) (fun w' hw' => load_of (OA15.out.nw hw')) _ Try.underlying27 rfl (i27.trans (by rw [List.length_map, LR.out])) ?_
        refine wpYield_load_agg 27 _ rfl rfl rfl (rb.map bv) (fun w' hw' => load_of (OB15.out.nw hw')) _ Try.underlying27 rfl (i27.trans (by rw [List.length_map, LR.out])) ?_
        refine wpYield_eq_arr true 27 _ 5 64 _ _ rfl rfl rb rb Try.underlying27 Try.underlying5 (by kernel_rfl) (by kernel_rfl) rfl rfl LR.out LR.out false (by simp) ?_
        iterate 10 (refine wpYield_step rfl (fun K hK => ?_)
                    apply Exists.intro
                    refine ⟨fun w' hw' => ?_, ?_⟩
                    · (go_simp; try with_reducible rfl)
                    go_simp
                    refine hK _ ?_
                    clear hK K)
        refine wpYield_load_agg 27 _ rfl rfl rfl (o.s.map bv) (fun w' hw' => op_load (OY15.out.nw hw')) _ Try.underlying27 rfl (i27.trans (by rw [List.length_map, HO.out.2.2])) ?_
        iterate 4 (refine wpYield_step rfl (fun K hK => ?_)
                   apply Exists.intro
                   refine ⟨fun w' hw' => ?_, ?_⟩
                   · (go_simp; try with_reducible rfl)
                   go_simp
                   refine hK _ ?_
                   clear hK K)
        refine wpYield_load_agg 27 _ rfl rfl rfl (o.s.map bv) (fun w' hw' => op_load (OY15.out.nw hw')) _ Try.underlying27 rfl (i27.trans (by rw [List.length_map, HO.out.2.2])) ?_
        refine wpYield_nil ?_
        refine held_eff 14 rfl (by kernel_rfl) rfl (fun K hK => ?_)
        go_simp
        refine (HMA.out _ (gb_drew (Nw.refl w15))).mono ?_
        rintro e w16 ⟨rfl, n16⟩
        refine hK _ _ ⟨gb_of_drew n16, ?_⟩
        clear hK K
        refine held_eff 20 rfl (by kernel_rfl) rfl (fun K hK => ?_)
        go_simp
        refine (HMB.out _ (gb_of_drew n16)).mono ?_
        rintro e w17 ⟨rfl, n17⟩
        refine hK _ _ ⟨gb_trans (gb_of_drew n16) n17, ?_⟩
        clear hK K
        refine held_seg' (l := [21, 22]) (fuel := 0) rfl (by kernel_rfl) (by kernel_rfl) (by simp only [List.filterMap_cons, List.filterMap_nil, List.getElem?_toArray, List.getElem?_cons_succ, List.getElem?_cons_zero]; rfl) (fun _ _ d _ _ h => by cases d <;> exact h) (gb_trans (gb_of_drew n16) n17) ?_
        iterate 2 (refine wpYield_step rfl (fun K hK => ?_)
                   apply Exists.intro
                   refine ⟨fun w' hw' => ?_, ?_⟩
                   · (go_simp; try with_reducible rfl)
                   go_simp
                   refine hK _ ?_
                   clear hK K)
        refine wpYield_nil ?_
        refine wpAnyH_done (by kernel_rfl) ?_ _
        have T17 := Lib.hid (T15.out.more (gb_trans (gb_of_drew n16) n17)); clear n16 n17 k1
        go_wp2
        exact ⟨⟨i + 1, by go_num, by omega, hlt1, _, _, _, T17.out.noVar.moreK (by omega), (by rw [show (wrM M bk o.s).length = M.length from wrM_len _ _ _]; exact LM.out)⟩, by simp [intOf]; omega⟩
    · have hcases : (¬ i < n) ∨ (i < n ∧ i = 200) := by omega
      clear hlt
      rcases hcases with hlt1 | ⟨hlt1, rfl⟩
      all_goals
        go_wp2
        go_ret
        exact ⟨rfl, T5.out.nw⟩
end Go.Proofs.Ytblkdmnfmnbbeaa

