/- What script.bare returns, for all acts. -/
import Derived.Test.YtmcgfnfhpcddlaaB
namespace Go.Proofs.Ytmcgfnfhpcddlaa
open Go.RowKit Go.BW

set_option maxRecDepth 100000 in
set_option maxHeartbeats 8000000 in
theorem bare_any {a : Act} (ho : a.s.length = 64) (w : World) : Calls Try.prog 33 #[.agg (actC a).toArray] w (BarePost a w) := by
  have hbx : ActO (w.alloc (.cells (actC a).toArray 44)) w.heap.size a := Obj1.new w 44 (actC a).toArray
  have hg0 := World.grownBy_alloc w (.cells (actC a).toArray 44) none
  obtain ⟨V, hV⟩ : ∃ V, w.alloc (.cells (actC a).toArray 44) = V := ⟨_, rfl⟩
  obtain ⟨ga, hga⟩ : ∃ y, w.heap.size = y := ⟨_, rfl⟩
  rw [hV] at hbx hg0
  rw [hga] at hbx
  have hgw : w.heap.size ≤ ga := by omega
  have A0 := Lib.hid hbx; have N0 := Lib.hid hg0
  obtain ⟨k, hk⟩ : ∃ k, a.k = k := ⟨_, rfl⟩
  have hkk := A0.out.k
  have hl0 := A0.out.lt
  rw [hk] at hkk
  clear hbx hg0
  obtain ⟨KK, hKK⟩ : ∃ K, knownK a.k = K := ⟨_, rfl⟩
  obtain ⟨b9, hB9⟩ : ∃ b9, bareA a = b9 := ⟨_, rfl⟩
  unfold BarePost
  rw [hKK, hB9]
  go_enter Try.func33, Try.ntmps33
  go_upto_region 2 with (first
    | (refine wpList_store44 _ _ rfl rfl (a0 k) rfl rfl X2.out ?_; intro w3 s3 g3)
    | (refine wpList_alloc44 rfl rfl ?_; intro gx w2 x2 n2 l2; have X2 := Lib.hid x2; have A2 := Lib.hid (A1.out.nw n2); have R2 := Lib.hid (R1.out.nw n2); have N2 := Lib.hid (gb_trans N1.out n2))
    | (refine wpList_build44 _ rfl rfl k rfl ?_)
    | (refine wpList_alloc44 rfl rfl ?_; intro gr w1 x1 n1 l1; have R1 := Lib.hid x1; have A1 := Lib.hid (A0.out.nw n1); have N1 := Lib.hid (gb_trans N0.out n1); have hkk := A1.out.k; rw [hk] at hkk))
  have hlr := R1.out.lt
  have hla := A1.out.lt
  have hxa : ga ≠ gx := by omega
  have hxr : gr ≠ gx := by omega
  have hra : ga ≠ gr := by omega
  have hgr : w.heap.size ≤ gr := by omega
  have hgx : w.heap.size ≤ gx := by omega
  have A3 := Lib.hid (A2.out.other g3 hxa); have R3 := Lib.hid (R2.out.other g3 hxr); have X3 := Lib.hid s3
  have N3 := Lib.hid (nw_of_gb N2.out g3 (fun q hq => by injection hq with hq; omega))
  have hkk := A3.out.k
  rw [hk] at hkk
  clear x1 n1 l1 x2 n2 l2 s3 g3 A0 A1 A2 R1 R2 X2 N0 N1 N2 hV hga hlr hla hl0
  rcases (show k = 1 ∨ k = 2 ∨ k = 3 ∨ k = 4 ∨ k = 5 ∨ k = 6 ∨ k = 7 ∨ k = 8 ∨ k = 9 ∨ k = 10 ∨ (k ≠ 1 ∧ k ≠ 2 ∧ k ≠ 3 ∧ k ≠ 4 ∧ k ≠ 5 ∧ k ≠ 6 ∧ k ≠ 7 ∧ k ≠ 8 ∧ k ≠ 9 ∧ k ≠ 10) by omega) with e | e | e | e | e | e | e | e | e | e | ⟨e1, e2, e3, e4, e5, e6, e7, e8, e9, e10⟩
  · subst e
    have f1 : ∀ w', ActO w' ga a → w'.cell? ⟨ga, 1, none⟩ = some (.int .i64 a.b) := fun _ h => h.b
    have HB := Lib.hid (show b9 = ⟨1, a.b, a.s, 0, 0, 0⟩ from by rw [← hB9]; unfold bareA; simp [hk, a0])
    have HK := Lib.hid (show KK = true from by rw [← hKK, hk]; decide)
    clear hB9 hKK
    go_upto_region 5 with fail
    refine wp_region_held (S := (fun w' => ActO w' ga a)) (by kernel_rfl) ?_
    change wpAnyH _ _ _ _ _ _ _ _ (World.drew w3)
    have R4 := Lib.hid (show ActO w3.drew gr (a0 0) from R3.out); have X4 := Lib.hid (show ActO w3.drew gx (a0 _) from X3.out); have N4 := Lib.hid (gb_drew N3.out); have A4 := Lib.hid (show ActO w3.drew ga a from A3.out)
    clear R3 X3 N3 A3 hkk
    refine held_seg' (l := [0, 1, 2, 3, 4]) (fuel := 3) rfl (by kernel_rfl) (by kernel_rfl) (by simp only [List.filterMap_cons, List.filterMap_nil, List.getElem?_toArray, List.getElem?_cons_succ, List.getElem?_cons_zero]; rfl) (fun _ _ d _ _ h => by cases d <;> exact h) A4.out ?_
    iterate 3 (refine wpYield_step rfl (fun K hK => ?_)
               apply Exists.intro
               refine ⟨fun w' hw' => ?_, ?_⟩
               · (go_simp; try with_reducible rfl)
               go_simp
               refine hK _ ?_
               clear hK K)
    refine wpYield_load_agg 33 _ rfl rfl rfl (a.s.map bv) (fun w' hw' => by have := hw'.s; rw [p64_of ho] at this; exact this) _ Try.underlying33 rfl (i33' ho) ?_
    (refine wpYield_step rfl (fun K hK => ?_)
     apply Exists.intro
     refine ⟨fun w' hw' => ?_, ?_⟩
     · (go_simp; try with_reducible rfl)
     go_simp
     refine hK _ ?_
     clear hK K)
    refine wpYield_nil ?_
    refine held_eff 5 rfl (by kernel_rfl) rfl (fun K hK => ?_)
    refine wp_store_act 3 _ _ rfl [.int .i64 a.b] rfl rfl rfl i3 (one1 _ rfl) X4.out (by first | (rw [List.length_map, ho]; decide) | (simp only [List.length_cons, List.length_nil]; omega)) (st_b _ _) (fun w5 s5 g5 => ?_)
    have A5 := Lib.hid (A4.out.other g5 hxa); have R5 := Lib.hid (R4.out.other g5 hxr); have X5 := Lib.hid s5; have N5 := Lib.hid (nw_of_gb N4.out g5 (fun q hq => by injection hq with hq; omega))
    refine hK _ _ ⟨A5.out, ?_⟩
    clear hK K A4 R4 X4 N4 s5 g5
    refine held_seg' (l := [6]) (fuel := 1) rfl (by kernel_rfl) (by kernel_rfl) (by simp only [List.filterMap_cons, List.filterMap_nil, List.getElem?_toArray, List.getElem?_cons_succ, List.getElem?_cons_zero]; rfl) (fun _ _ d _ _ h => by cases d <;> exact h) A5.out ?_
    (refine wpYield_step rfl (fun K hK => ?_)
     apply Exists.intro
     refine ⟨fun w' hw' => ?_, ?_⟩
     · (go_simp; try with_reducible rfl)
     go_simp
     refine hK _ ?_
     clear hK K)
    refine wpYield_nil ?_
    refine held_eff 7 rfl (by kernel_rfl) rfl (fun K hK => ?_)
    refine wp_store_act 33 _ _ rfl (a.s.map bv) rfl rfl rfl (i33' ho) (sec_one _) X5.out (by first | (rw [List.length_map, ho]; decide) | (simp only [List.length_cons, List.length_nil]; omega)) (set_s _ _ ho) (fun w6 s6 g6 => ?_)
    have A6 := Lib.hid (A5.out.other g6 hxa); have R6 := Lib.hid (R5.out.other g6 hxr); have X6 := Lib.hid s6; have N6 := Lib.hid (nw_of_gb N5.out g6 (fun q hq => by injection hq with hq; omega))
    refine hK _ _ ⟨A6.out, ?_⟩
    clear hK K A5 R5 X5 N5 s6 g6
    refine wpAnyH_done (by kernel_rfl) ?_ _
    have R9 := R6; have X9 := X6; have N9 := N6
    clear R6 X6 N6 A6
    go_wp2_with (first | (refine wpList_store44 _ _ rfl rfl _ rfl rfl R9.out ?_; intro w10 s10 g10) | (refine wpList_load44 _ rfl rfl rfl X9.out ?_))
    (refine bodyPost_ret (res_cell_tmp rfl _ _ _ 44 _ _ rfl s10 Try.underlying44 rfl (i44a _)) rfl ?_)
    exact ⟨by rw [HB.out, HK.out]; rfl, nw_of_gb N9.out g10 (fun q hq => by injection hq with hq; omega)⟩
  · subst e
    have HB := Lib.hid (show b9 = ⟨2, a.b, z64, 0, 0, 0⟩ from by rw [← hB9]; unfold bareA; simp [hk, a0])
    have HK := Lib.hid (show KK = true from by rw [← hKK, hk]; decide)
    clear hB9 hKK
    have hf := A3.out.b
    go_upto_region 20 with (first | (refine wpList_store_act 3 _ _ rfl rfl [.int .i64 a.b] rfl rfl rfl i3 (one1 _ rfl) X3.out (by simp only [List.length_cons, List.length_nil]; omega) (st_b _ _) ?_; intro w4 s4 g4))
    have R9 := Lib.hid (R3.out.other g4 hxr); have X9 := Lib.hid s4; have N9 := Lib.hid (nw_of_gb N3.out g4 (fun q hq => by injection hq with hq; omega))
    clear s4 g4 A3 R3 X3 N3 hkk hf
    go_wp2_with (first | (refine wpList_store44 _ _ rfl rfl _ rfl rfl R9.out ?_; intro w10 s10 g10) | (refine wpList_load44 _ rfl rfl rfl X9.out ?_))
    (refine bodyPost_ret (res_cell_tmp rfl _ _ _ 44 _ _ rfl s10 Try.underlying44 rfl (i44a _)) rfl ?_)
    exact ⟨by rw [HB.out, HK.out]; rfl, nw_of_gb N9.out g10 (fun q hq => by injection hq with hq; omega)⟩
  · subst e
    have HB := Lib.hid (show b9 = a0 3 from by rw [← hB9]; unfold bareA; simp [hk, a0])
    have HK := Lib.hid (show KK = true from by rw [← hKK, hk]; decide)
    clear hB9 hKK
    have R9 := R3; have X9 := X3; have N9 := N3
    clear A3 R3 X3 N3
    go_wp2_with (first | (refine wpList_store44 _ _ rfl rfl _ rfl rfl R9.out ?_; intro w10 s10 g10) | (refine wpList_load44 _ rfl rfl rfl X9.out ?_))
    (refine bodyPost_ret (res_cell_tmp rfl _ _ _ 44 _ _ rfl s10 Try.underlying44 rfl (i44a _)) rfl ?_)
    exact ⟨by rw [HB.out, HK.out]; rfl, nw_of_gb N9.out g10 (fun q hq => by injection hq with hq; omega)⟩
  · subst e
    have HB := Lib.hid (show b9 = ⟨4, 0, z64, a.n, 0, 0⟩ from by rw [← hB9]; unfold bareA; simp [hk, a0])
    have HK := Lib.hid (show KK = true from by rw [← hKK, hk]; decide)
    clear hB9 hKK
    have hf := A3.out.n
    go_upto_region 20 with (first | (refine wpList_store_act 3 _ _ rfl rfl [.int .i64 a.n] rfl rfl rfl i3 (one1 _ rfl) X3.out (by simp only [List.length_cons, List.length_nil]; omega) (st_n _ _) ?_; intro w4 s4 g4))
    have R9 := Lib.hid (R3.out.other g4 hxr); have X9 := Lib.hid s4; have N9 := Lib.hid (nw_of_gb N3.out g4 (fun q hq => by injection hq with hq; omega))
    clear s4 g4 A3 R3 X3 N3 hkk hf
    go_wp2_with (first | (refine wpList_store44 _ _ rfl rfl _ rfl rfl R9.out ?_; intro w10 s10 g10) | (refine wpList_load44 _ rfl rfl rfl X9.out ?_))
    (refine bodyPost_ret (res_cell_tmp rfl _ _ _ 44 _ _ rfl s10 Try.underlying44 rfl (i44a _)) rfl ?_)
    exact ⟨by rw [HB.out, HK.out]; rfl, nw_of_gb N9.out g10 (fun q hq => by injection hq with hq; omega)⟩
  · subst e
    have HB := Lib.hid (show b9 = ⟨5, 0, z64, a.n, 0, 0⟩ from by rw [← hB9]; unfold bareA; simp [hk, a0])
    have HK := Lib.hid (show KK = true from by rw [← hKK, hk]; decide)
    clear hB9 hKK
    have hf := A3.out.n
    go_upto_region 20 with (first | (refine wpList_store_act 3 _ _ rfl rfl [.int .i64 a.n] rfl rfl rfl i3 (one1 _ rfl) X3.out (by simp only [List.length_cons, List.length_nil]; omega) (st_n _ _) ?_; intro w4 s4 g4))
    have R9 := Lib.hid (R3.out.other g4 hxr); have X9 := Lib.hid s4; have N9 := Lib.hid (nw_of_gb N3.out g4 (fun q hq => by injection hq with hq; omega))
    clear s4 g4 A3 R3 X3 N3 hkk hf
    go_wp2_with (first | (refine wpList_store44 _ _ rfl rfl _ rfl rfl R9.out ?_; intro w10 s10 g10) | (refine wpList_load44 _ rfl rfl rfl X9.out ?_))
    (refine bodyPost_ret (res_cell_tmp rfl _ _ _ 44 _ _ rfl s10 Try.underlying44 rfl (i44a _)) rfl ?_)
    exact ⟨by rw [HB.out, HK.out]; rfl, nw_of_gb N9.out g10 (fun q hq => by injection hq with hq; omega)⟩
  · subst e
    have HB := Lib.hid (show b9 = ⟨6, 0, z64, a.n, 0, 0⟩ from by rw [← hB9]; unfold bareA; simp [hk, a0])
    have HK := Lib.hid (show KK = true from by rw [← hKK, hk]; decide)
    clear hB9 hKK
    have hf := A3.out.n
    go_upto_region 20 with (first | (refine wpList_store_act 3 _ _ rfl rfl [.int .i64 a.n] rfl rfl rfl i3 (one1 _ rfl) X3.out (by simp only [List.length_cons, List.length_nil]; omega) (st_n _ _) ?_; intro w4 s4 g4))
    have R9 := Lib.hid (R3.out.other g4 hxr); have X9 := Lib.hid s4; have N9 := Lib.hid (nw_of_gb N3.out g4 (fun q hq => by injection hq with hq; omega))
    clear s4 g4 A3 R3 X3 N3 hkk hf
    go_wp2_with (first | (refine wpList_store44 _ _ rfl rfl _ rfl rfl R9.out ?_; intro w10 s10 g10) | (refine wpList_load44 _ rfl rfl rfl X9.out ?_))
    (refine bodyPost_ret (res_cell_tmp rfl _ _ _ 44 _ _ rfl s10 Try.underlying44 rfl (i44a _)) rfl ?_)
    exact ⟨by rw [HB.out, HK.out]; rfl, nw_of_gb N9.out g10 (fun q hq => by injection hq with hq; omega)⟩
  · subst e
    have f1 : ∀ w', ActO w' ga a → w'.cell? ⟨ga, 66, none⟩ = some (.int .i64 a.n) := fun _ h => h.n
    have f3 : ∀ w', ActO w' ga a → w'.cell? ⟨ga, 68, none⟩ = some (.int .u64 (a.m : Int)) := fun _ h => h.m
    have HB := Lib.hid (show b9 = ⟨7, 0, z64, a.n, 0, a.m⟩ from by rw [← hB9]; unfold bareA; simp [hk, a0])
    have HK := Lib.hid (show KK = true from by rw [← hKK, hk]; decide)
    clear hB9 hKK
    go_upto_region 13 with fail
    refine wp_region_held (S := (fun w' => ActO w' ga a)) (by kernel_rfl) ?_
    change wpAnyH _ _ _ _ _ _ _ _ (World.drew w3)
    have R4 := Lib.hid (show ActO w3.drew gr (a0 0) from R3.out); have X4 := Lib.hid (show ActO w3.drew gx (a0 _) from X3.out); have N4 := Lib.hid (gb_drew N3.out); have A4 := Lib.hid (show ActO w3.drew ga a from A3.out)
    clear R3 X3 N3 A3 hkk
    refine held_seg' (l := [0, 1, 2, 3, 4]) (fuel := 3) rfl (by kernel_rfl) (by kernel_rfl) (by simp only [List.filterMap_cons, List.filterMap_nil, List.getElem?_toArray, List.getElem?_cons_succ, List.getElem?_cons_zero]; rfl) (fun _ _ d _ _ h => by cases d <;> exact h) A4.out ?_
    iterate 5 (refine wpYield_step rfl (fun K hK => ?_)
               apply Exists.intro
               refine ⟨fun w' hw' => ?_, ?_⟩
               · (go_simp; try with_reducible rfl)
               go_simp
               refine hK _ ?_
               clear hK K)
    refine wpYield_nil ?_
    refine held_eff 5 rfl (by kernel_rfl) rfl (fun K hK => ?_)
    refine wp_store_act 3 _ _ rfl [.int .i64 a.n] rfl rfl rfl i3 (one1 _ rfl) X4.out (by first | (rw [List.length_map, ho]; decide) | (simp only [List.length_cons, List.length_nil]; omega)) (st_n _ _) (fun w5 s5 g5 => ?_)
    have A5 := Lib.hid (A4.out.other g5 hxa); have R5 := Lib.hid (R4.out.other g5 hxr); have X5 := Lib.hid s5; have N5 := Lib.hid (nw_of_gb N4.out g5 (fun q hq => by injection hq with hq; omega))
    refine hK _ _ ⟨A5.out, ?_⟩
    clear hK K A4 R4 X4 N4 s5 g5
    refine held_seg' (l := [6]) (fuel := 1) rfl (by kernel_rfl) (by kernel_rfl) (by simp only [List.filterMap_cons, List.filterMap_nil, List.getElem?_toArray, List.getElem?_cons_succ, List.getElem?_cons_zero]; rfl) (fun _ _ d _ _ h => by cases d <;> exact h) A5.out ?_
    (refine wpYield_step rfl (fun K hK => ?_)
     apply Exists.intro
     refine ⟨fun w' hw' => ?_, ?_⟩
     · (go_simp; try with_reducible rfl)
     go_simp
     refine hK _ ?_
     clear hK K)
    refine wpYield_nil ?_
    refine held_eff 7 rfl (by kernel_rfl) rfl (fun K hK => ?_)
    refine wp_store_act 31 _ _ rfl [.int .u64 (a.m : Int)] rfl rfl rfl i31 (one1 _ rfl) X5.out (by first | (rw [List.length_map, ho]; decide) | (simp only [List.length_cons, List.length_nil]; omega)) (st_m _ _) (fun w6 s6 g6 => ?_)
    have A6 := Lib.hid (A5.out.other g6 hxa); have R6 := Lib.hid (R5.out.other g6 hxr); have X6 := Lib.hid s6; have N6 := Lib.hid (nw_of_gb N5.out g6 (fun q hq => by injection hq with hq; omega))
    refine hK _ _ ⟨A6.out, ?_⟩
    clear hK K A5 R5 X5 N5 s6 g6
    refine wpAnyH_done (by kernel_rfl) ?_ _
    have R9 := R6; have X9 := X6; have N9 := N6
    clear R6 X6 N6 A6
    go_wp2_with (first | (refine wpList_store44 _ _ rfl rfl _ rfl rfl R9.out ?_; intro w10 s10 g10) | (refine wpList_load44 _ rfl rfl rfl X9.out ?_))
    (refine bodyPost_ret (res_cell_tmp rfl _ _ _ 44 _ _ rfl s10 Try.underlying44 rfl (i44a _)) rfl ?_)
    exact ⟨by rw [HB.out, HK.out]; rfl, nw_of_gb N9.out g10 (fun q hq => by injection hq with hq; omega)⟩
  · subst e
    have f1 : ∀ w', ActO w' ga a → w'.cell? ⟨ga, 66, none⟩ = some (.int .i64 a.n) := fun _ h => h.n
    have f2 : ∀ w', ActO w' ga a → w'.cell? ⟨ga, 67, none⟩ = some (.int .i64 a.at') := fun _ h => h.t
    have f3 : ∀ w', ActO w' ga a → w'.cell? ⟨ga, 68, none⟩ = some (.int .u64 (a.m : Int)) := fun _ h => h.m
    have HB := Lib.hid (show b9 = ⟨8, 0, z64, a.n, a.at', a.m⟩ from by rw [← hB9]; unfold bareA; simp [hk, a0])
    have HK := Lib.hid (show KK = true from by rw [← hKK, hk]; decide)
    clear hB9 hKK
    go_upto_region 15 with fail
    refine wp_region_held (S := (fun w' => ActO w' ga a)) (by kernel_rfl) ?_
    change wpAnyH _ _ _ _ _ _ _ _ (World.drew w3)
    have R4 := Lib.hid (show ActO w3.drew gr (a0 0) from R3.out); have X4 := Lib.hid (show ActO w3.drew gx (a0 _) from X3.out); have N4 := Lib.hid (gb_drew N3.out); have A4 := Lib.hid (show ActO w3.drew ga a from A3.out)
    clear R3 X3 N3 A3 hkk
    refine held_seg' (l := [0, 1, 2, 3, 4, 5, 6]) (fuel := 5) rfl (by kernel_rfl) (by kernel_rfl) (by simp only [List.filterMap_cons, List.filterMap_nil, List.getElem?_toArray, List.getElem?_cons_succ, List.getElem?_cons_zero]; rfl) (fun _ _ d _ _ h => by cases d <;> exact h) A4.out ?_
    iterate 7 (refine wpYield_step rfl (fun K hK => ?_)
               apply Exists.intro
               refine ⟨fun w' hw' => ?_, ?_⟩
               · (go_simp; try with_reducible rfl)
               go_simp
               refine hK _ ?_
               clear hK K)
    refine wpYield_nil ?_
    refine held_eff 7 rfl (by kernel_rfl) rfl (fun K hK => ?_)
    refine wp_store_act 3 _ _ rfl [.int .i64 a.at'] rfl rfl rfl i3 (one1 _ rfl) X4.out (by first | (rw [List.length_map, ho]; decide) | (simp only [List.length_cons, List.length_nil]; omega)) (st_t _ _) (fun w5 s5 g5 => ?_)
    have A5 := Lib.hid (A4.out.other g5 hxa); have R5 := Lib.hid (R4.out.other g5 hxr); have X5 := Lib.hid s5; have N5 := Lib.hid (nw_of_gb N4.out g5 (fun q hq => by injection hq with hq; omega))
    refine hK _ _ ⟨A5.out, ?_⟩
    clear hK K A4 R4 X4 N4 s5 g5
    refine held_seg' (l := [8]) (fuel := 3) rfl (by kernel_rfl) (by kernel_rfl) (by simp only [List.filterMap_cons, List.filterMap_nil, List.getElem?_toArray, List.getElem?_cons_succ, List.getElem?_cons_zero]; rfl) (fun _ _ d _ _ h => by cases d <;> exact h) A5.out ?_
    (refine wpYield_step rfl (fun K hK => ?_)
     apply Exists.intro
     refine ⟨fun w' hw' => ?_, ?_⟩
     · (go_simp; try with_reducible rfl)
     go_simp
     refine hK _ ?_
     clear hK K)
    refine wpYield_nil ?_
    refine held_eff 9 rfl (by kernel_rfl) rfl (fun K hK => ?_)
    refine wp_store_act 3 _ _ rfl [.int .i64 a.n] rfl rfl rfl i3 (one1 _ rfl) X5.out (by first | (rw [List.length_map, ho]; decide) | (simp only [List.length_cons, List.length_nil]; omega)) (st_n _ _) (fun w6 s6 g6 => ?_)
    have A6 := Lib.hid (A5.out.other g6 hxa); have R6 := Lib.hid (R5.out.other g6 hxr); have X6 := Lib.hid s6; have N6 := Lib.hid (nw_of_gb N5.out g6 (fun q hq => by injection hq with hq; omega))
    refine hK _ _ ⟨A6.out, ?_⟩
    clear hK K A5 R5 X5 N5 s6 g6
    refine held_seg' (l := [10]) (fuel := 1) rfl (by kernel_rfl) (by kernel_rfl) (by simp only [List.filterMap_cons, List.filterMap_nil, List.getElem?_toArray, List.getElem?_cons_succ, List.getElem?_cons_zero]; rfl) (fun _ _ d _ _ h => by cases d <;> exact h) A6.out ?_
    (refine wpYield_step rfl (fun K hK => ?_)
     apply Exists.intro
     refine ⟨fun w' hw' => ?_, ?_⟩
     · (go_simp; try with_reducible rfl)
     go_simp
     refine hK _ ?_
     clear hK K)
    refine wpYield_nil ?_
    refine held_eff 11 rfl (by kernel_rfl) rfl (fun K hK => ?_)
    refine wp_store_act 31 _ _ rfl [.int .u64 (a.m : Int)] rfl rfl rfl i31 (one1 _ rfl) X6.out (by first | (rw [List.length_map, ho]; decide) | (simp only [List.length_cons, List.length_nil]; omega)) (st_m _ _) (fun w7 s7 g7 => ?_)
    have A7 := Lib.hid (A6.out.other g7 hxa); have R7 := Lib.hid (R6.out.other g7 hxr); have X7 := Lib.hid s7; have N7 := Lib.hid (nw_of_gb N6.out g7 (fun q hq => by injection hq with hq; omega))
    refine hK _ _ ⟨A7.out, ?_⟩
    clear hK K A6 R6 X6 N6 s7 g7
    refine wpAnyH_done (by kernel_rfl) ?_ _
    have R9 := R7; have X9 := X7; have N9 := N7
    clear R7 X7 N7 A7
    go_wp2_with (first | (refine wpList_store44 _ _ rfl rfl _ rfl rfl R9.out ?_; intro w10 s10 g10) | (refine wpList_load44 _ rfl rfl rfl X9.out ?_))
    (refine bodyPost_ret (res_cell_tmp rfl _ _ _ 44 _ _ rfl s10 Try.underlying44 rfl (i44a _)) rfl ?_)
    exact ⟨by rw [HB.out, HK.out]; rfl, nw_of_gb N9.out g10 (fun q hq => by injection hq with hq; omega)⟩
  · subst e
    have f1 : ∀ w', ActO w' ga a → w'.cell? ⟨ga, 66, none⟩ = some (.int .i64 a.n) := fun _ h => h.n
    have f2 : ∀ w', ActO w' ga a → w'.cell? ⟨ga, 67, none⟩ = some (.int .i64 a.at') := fun _ h => h.t
    have HB := Lib.hid (show b9 = ⟨9, 0, z64, a.n, a.at', 0⟩ from by rw [← hB9]; unfold bareA; simp [hk, a0])
    have HK := Lib.hid (show KK = true from by rw [← hKK, hk]; decide)
    clear hB9 hKK
    go_upto_region 17 with fail
    refine wp_region_held (S := (fun w' => ActO w' ga a)) (by kernel_rfl) ?_
    change wpAnyH _ _ _ _ _ _ _ _ (World.drew w3)
    have R4 := Lib.hid (show ActO w3.drew gr (a0 0) from R3.out); have X4 := Lib.hid (show ActO w3.drew gx (a0 _) from X3.out); have N4 := Lib.hid (gb_drew N3.out); have A4 := Lib.hid (show ActO w3.drew ga a from A3.out)
    clear R3 X3 N3 A3 hkk
    refine held_seg' (l := [0, 1, 2, 3, 4]) (fuel := 3) rfl (by kernel_rfl) (by kernel_rfl) (by simp only [List.filterMap_cons, List.filterMap_nil, List.getElem?_toArray, List.getElem?_cons_succ, List.getElem?_cons_zero]; rfl) (fun _ _ d _ _ h => by cases d <;> exact h) A4.out ?_
    iterate 5 (refine wpYield_step rfl (fun K hK => ?_)
               apply Exists.intro
               refine ⟨fun w' hw' => ?_, ?_⟩
               · (go_simp; try with_reducible rfl)
               go_simp
               refine hK _ ?_
               clear hK K)
    refine wpYield_nil ?_
    refine held_eff 5 rfl (by kernel_rfl) rfl (fun K hK => ?_)
    refine wp_store_act 3 _ _ rfl [.int .i64 a.n] rfl rfl rfl i3 (one1 _ rfl) X4.out (by first | (rw [List.length_map, ho]; decide) | (simp only [List.length_cons, List.length_nil]; omega)) (st_n _ _) (fun w5 s5 g5 => ?_)
    have A5 := Lib.hid (A4.out.other g5 hxa); have R5 := Lib.hid (R4.out.other g5 hxr); have X5 := Lib.hid s5; have N5 := Lib.hid (nw_of_gb N4.out g5 (fun q hq => by injection hq with hq; omega))
    refine hK _ _ ⟨A5.out, ?_⟩
    clear hK K A4 R4 X4 N4 s5 g5
    refine held_seg' (l := [6]) (fuel := 1) rfl (by kernel_rfl) (by kernel_rfl) (by simp only [List.filterMap_cons, List.filterMap_nil, List.getElem?_toArray, List.getElem?_cons_succ, List.getElem?_cons_zero]; rfl) (fun _ _ d _ _ h => by cases d <;> exact h) A5.out ?_
    (refine wpYield_step rfl (fun K hK => ?_)
     apply Exists.intro
     refine ⟨fun w' hw' => ?_, ?_⟩
     · (go_simp; try with_reducible rfl)
     go_simp
     refine hK _ ?_
     clear hK K)
    refine wpYield_nil ?_
    refine held_eff 7 rfl (by kernel_rfl) rfl (fun K hK => ?_)
    refine wp_store_act 3 _ _ rfl [.int .i64 a.at'] rfl rfl rfl i3 (one1 _ rfl) X5.out (by first | (rw [List.length_map, ho]; decide) | (simp only [List.length_cons, List.length_nil]; omega)) (st_t _ _) (fun w6 s6 g6 => ?_)
    have A6 := Lib.hid (A5.out.other g6 hxa); have R6 := Lib.hid (R5.out.other g6 hxr); have X6 := Lib.hid s6; have N6 := Lib.hid (nw_of_gb N5.out g6 (fun q hq => by injection hq with hq; omega))
    refine hK _ _ ⟨A6.out, ?_⟩
    clear hK K A5 R5 X5 N5 s6 g6
    refine wpAnyH_done (by kernel_rfl) ?_ _
    have R9 := R6; have X9 := X6; have N9 := N6
    clear R6 X6 N6 A6
    go_wp2_with (first | (refine wpList_store44 _ _ rfl rfl _ rfl rfl R9.out ?_; intro w10 s10 g10) | (refine wpList_load44 _ rfl rfl rfl X9.out ?_))
    (refine bodyPost_ret (res_cell_tmp rfl _ _ _ 44 _ _ rfl s10 Try.underlying44 rfl (i44a _)) rfl ?_)
    exact ⟨by rw [HB.out, HK.out]; rfl, nw_of_gb N9.out g10 (fun q hq => by injection hq with hq; omega)⟩
  · subst e
    have HB := Lib.hid (show b9 = a0 10 from by rw [← hB9]; unfold bareA; simp [hk, a0])
    have HK := Lib.hid (show KK = true from by rw [← hKK, hk]; decide)
    clear hB9 hKK
    have R9 := R3; have X9 := X3; have N9 := N3
    clear A3 R3 X3 N3
    go_wp2_with (first | (refine wpList_store44 _ _ rfl rfl _ rfl rfl R9.out ?_; intro w10 s10 g10) | (refine wpList_load44 _ rfl rfl rfl X9.out ?_))
    (refine bodyPost_ret (res_cell_tmp rfl _ _ _ 44 _ _ rfl s10 Try.underlying44 rfl (i44a _)) rfl ?_)
    exact ⟨by rw [HB.out, HK.out]; rfl, nw_of_gb N9.out g10 (fun q hq => by injection hq with hq; omega)⟩
  · have HB := Lib.hid (show b9 = a0 k from by rw [← hB9]; unfold bareA; simp [hk, e1, e2, e4, e5, e6, e7, e8, e9])
    have HK := Lib.hid (show KK = false from by rw [← hKK, hk]; unfold knownK; simp; omega)
    clear hB9 hKK
    have t1 : (k == 1) = false := by simpa using e1
    have t2 : (k == 2) = false := by simpa using e2
    have t3 : (k == 3) = false := by simpa using e3
    have t4 : (k == 4) = false := by simpa using e4
    have t5 : (k == 5) = false := by simpa using e5
    have t6 : (k == 6) = false := by simpa using e6
    have t7 : (k == 7) = false := by simpa using e7
    have t8 : (k == 8) = false := by simpa using e8
    have t9 : (k == 9) = false := by simpa using e9
    have t10 : (k == 10) = false := by simpa using e10
    have R9 := R3; have X9 := X3; have N9 := N3
    clear A3 R3 X3 N3 e1 e2 e3 e4 e5 e6 e7 e8 e9 e10
    go_wp2_with (first | (refine wpList_store44 _ _ rfl rfl _ rfl rfl R9.out ?_; intro w10 s10 g10) | (refine wpList_load44 _ rfl rfl rfl X9.out ?_))
    (refine bodyPost_ret (res_cell_tmp rfl _ _ _ 44 _ _ rfl s10 Try.underlying44 rfl (i44a _)) rfl ?_)
    exact ⟨by rw [HB.out, HK.out]; rfl, nw_of_gb N9.out g10 (fun q hq => by injection hq with hq; omega)⟩
end Go.Proofs.Ytmcgfnfhpcddlaa

