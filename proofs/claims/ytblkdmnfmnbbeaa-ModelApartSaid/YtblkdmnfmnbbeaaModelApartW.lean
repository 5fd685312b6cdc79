/- The Go function ModelApart returns true for every two slices of steps; without conditions. -/
import Derived.Test.YtblkdmnfmnbbeaaN
namespace Go.Proofs.Ytblkdmnfmnbbeaa
open Go.RowKit Go.BW

def ApartRel (w : World) (ga gb i : Nat) (wr : World) : Prop :=
  ∃ Ma Fa Mb Fb b3, Tw w wr ga Ma Fa (i + 1) gb Mb Fb (2 * i + 1) [] ∧ Ma.length = 8 ∧ Mb.length = 8 ∧ Ma[3]? = some b3 ∧ Mb[3]? = some b3
theorem and7 (x : Int) : ∃ m : Nat, m ≤ 7 ∧ bits .and .i64 x 7 = (m : Int) := by
  have h := and_mask x 3 (by omega)
  simp at h
  exact ⟨(x % 8).toNat, by omega, by rw [h]; omega⟩
theorem now_eq {w : World} {g Z : Nat} {M : MB} {F : List Nat} {rb : List UInt8} {ri : Bool} (h : Rep w g M F Z) (hZ : Z ≤ 1000) (i : Nat) (b : List UInt8 × Bool) (hb : M[i]? = some b) (hr : nowOf b = (rb, ri)) :
    Calls Try.prog 22 #[pv g, .int .i64 i] w (Ret (.tuple #[.agg (rb.map bv).toArray, .bool ri]) w) := by
  have := now2_in h hZ i b hb
  rw [hr] at this
  exact this
theorem oc_one (o : Op) : ∀ u ∈ oc o, u.oneCell' = true := by
  intro u hu
  unfold oc at hu
  rcases List.mem_cons.1 hu with rfl | hu
  · rfl
  rcases List.mem_cons.1 hu with rfl | hu
  · rfl
  · exact bv_one _ u hu
set_option maxRecDepth 100000 in
set_option maxHeartbeats 8000000 in
theorem apart_walk {w : World} (A : Option Addr) (n c : Nat) (l : List Op) (hin : InO w A n c l) (A' : Option Addr) (m c' : Nat) (l' : List Op) (hin' : InO w A' m c' l') :
    Calls Try.prog 7 #[.slice A n c, .slice A' m c'] w (Ret (.bool true) w) := by
  have HIN := Lib.hid hin; have HIN' := Lib.hid hin'
  have hnc := hin.2.1; have hcm := hin.2.2.1; have hnc' := hin'.2.1; have hcm' := hin'.2.2.1
  clear hin hin'
  have hnew := Lib.hid (show ∀ w, Calls Try.prog 10 #[.int .i64 8] w (NewPost 8 w) from fun w => by have := new_any 8 w; rwa [show numN 8 = 8 from by decide] at this)
  obtain ⟨i0, hi0, hz0, _⟩ := T22.info
  rw [z64_cells] at hz0
  have HZ := Lib.hid hz0; clear hz0
  have HI := Lib.hid hi0; clear hi0
  obtain ⟨i1, hi1, hz1, _⟩ := T36.info
  have HZ1 := Lib.hid hz1; clear hz1
  have HI1 := Lib.hid hi1; clear hi1
  go_enter Try.func7, Try.ntmps7
  go_wp2_with (first | ((with_reducible refine (shown_any _).mono ?_); rintro e w1 ⟨rfl, n1⟩; have N1 := Lib.hid n1; clear n1) |
    (refine (hnew.out _).mono ?_; rintro e w3 h1; obtain ⟨gb, Fb, rfl, t1⟩ := Tw.of_new S1.out.nw S1.out h1; have T3 := Lib.hid t1; clear t1 h1; unfold pv) |
    (refine (hnew.out _).mono ?_; rintro e w2 h1; obtain ⟨ga, Fa, rfl, s1⟩ := St.of_new N1.out h1; have S1 := Lib.hid s1; clear s1 h1; unfold pv))
  go_loopw [8] (fun i wr => ∃ i' : Nat, i = .int .i64 i' ∧ i' ≤ 60 ∧ i' ≤ n ∧ ApartRel w ga gb i' wr) (fun i _ => 60 - (intOf i).toNat)
  case atStart => exact ⟨0, rfl, by omega, by omega, _, _, _, _, (z64b, false), T3.out, by simp, by simp, by simp, by simp⟩
  case round =>
    obtain ⟨i, rfl, hi1, hi2, Ma, F4, Mb, G4, b3, t4, la, lb, a3, b3'⟩ := hrel
    have T4 := Lib.hid t4; have LA := Lib.hid la; have LB := Lib.hid lb; have A3 := Lib.hid a3; have B3 := Lib.hid b3'; clear t4 la lb a3 b3'
    by_cases hlt : i < n ∧ i < 60
    · obtain ⟨hlt1, hlt2⟩ := hlt
      obtain ⟨b, off, o, rfl, hx, ho, hcl⟩ := op_at HIN.out hlt1
      have HCL := Lib.hid hcl; have HO := Lib.hid ho; clear hcl ho hx
      have HR := Lib.hid (show (o.k = 0 ∨ True) from .inr trivial)
      have hoth : ∃ (u : Bool) (p : Op) (bb oo kk : Nat), (u = false ∧ m ≤ i) ∨ (u = true ∧ i < m ∧ A' = some ⟨bb, oo, none⟩ ∧ okO p ∧ kk ≤ 7 ∧ bits .and .i64 p.b 7 = (kk : Int) ∧ ∀ w', Nw w w' → ∀ j u, (oc p)[j]? = some u → w'.cell? ⟨bb, oo + i * 66 + j, none⟩ = some u) := by
        by_cases him : i < m
        · obtain ⟨bb, oo, p, e, _, hp, hc⟩ := op_at HIN'.out him
          obtain ⟨kk, h1, h2⟩ := and7 p.b
          exact ⟨true, p, bb, oo, kk, .inr ⟨rfl, him, e, hp, h1, h2, hc⟩⟩
        · exact ⟨false, z66, 0, 0, 0, .inl ⟨rfl, by omega⟩⟩
      obtain ⟨u, p, bb, oo, kk, hoth⟩ := hoth
      have HA8 := Lib.hid (doesM_at A3.out o)
      have HB8 := Lib.hid (doesM_at B3.out o)
      obtain ⟨rb, ri, hnw⟩ : ∃ rb ri, nowOf (stepB b3 o) = (rb, ri) := ⟨_, _, rfl⟩
      have HNW := Lib.hid hnw
      have HLB := Lib.hid (show (doesM Mb 3 b3 o).length = 8 from by rw [doesM_len, LB.out])
      have HLA := Lib.hid (show (doesM Ma 3 b3 o).length = 8 from by rw [doesM_len, LA.out])
      have LR := Lib.hid (show rb.length = 64 from by
        have h1 : (nowOf (stepB b3 o)).1.length = 64 := now_64 (step_len (rep_len T4.out.a A3.out) HO.out.2.2)
        rw [hnw] at h1
        exact h1)
      clear hnw
      rcases hoth with ⟨rfl, him⟩ | ⟨rfl, him, rfl, hp, hk7, hkb, hpc⟩
      rotate_left
      have HPC := Lib.hid (show ∀ w', Nw w w' → w'.cell? ⟨bb, oo + i * 66, none⟩ = some (.int .i64 p.k) ∧ w'.cell? ⟨bb, oo + i * 66 + 1, none⟩ = some (.int .i64 p.b) from fun w' k => ⟨hpc w' k 0 _ rfl, hpc w' k 1 _ rfl⟩)
      obtain ⟨bk, hbk⟩ : ∃ bk, (doesM Mb 3 b3 o)[kk]? = some bk := ⟨(doesM Mb 3 b3 o)[kk]'(by rw [HLB.out]; omega), List.getElem?_eq_getElem _⟩
      have HBK := Lib.hid hbk; clear hbk
      rcases (show kk = 3 ∨ (kk ≠ 3 ∧ p.k = 1) ∨ (kk ≠ 3 ∧ p.k = 4) ∨ (kk ≠ 3 ∧ p.k ≠ 1 ∧ p.k ≠ 4) from by omega) with h3 | ⟨h3, hk1⟩ | ⟨h3, hk1⟩ | ⟨h3, hk1, hk4⟩
      rotate_left
      have HP := Lib.hid (show okO p ∧ (p.k = 1 ∨ p.k = 4) ∧ kk ≠ 3 ∧ ∀ w', Nw w w' → ∀ j u, (oc p)[j]? = some u → w'.cell? ⟨bb, oo + i * 66 + j, none⟩ = some u from ⟨hp, .inl hk1, h3, hpc⟩)
      rotate_left
      have HP := Lib.hid (show okO p ∧ (p.k = 1 ∨ p.k = 4) ∧ kk ≠ 3 ∧ ∀ w', Nw w w' → ∀ j u, (oc p)[j]? = some u → w'.cell? ⟨bb, oo + i * 66 + j, none⟩ = some u from ⟨hp, .inr hk1, h3, hpc⟩)
      rotate_left
      have b1 : (p.k == 1) = false := by simpa using hk1
      have b4 : (p.k == 4) = false := by simpa using hk4
      rotate_left
      rotate_left
      all_goals
        try have n3 : ((kk : Int) != 3) = true := by (simp; omega)
        try have n3' : (kk != 3) = true := by (simp; omega)
        try have n3'' : (kk == 3) = false := by (simp; omega)
        clear HR
        try clear hpc
        try clear hp
        go_wp2_with (first |
          (refine wpList_eq_arr true 27 _ 5 64 _ _ rfl rfl rb rb Try.underlying27 Try.underlying5 (by kernel_rfl) (by kernel_rfl) rfl rfl LR.out LR.out false (by simp) ?_) |
          (refine wpList_load_agg 27 _ rfl rfl rfl (rb.map bv) (load_of OB15.out) _ Try.underlying27 rfl (i27.trans (by rw [List.length_map, LR.out])) ?_) |
          (refine wpList_load_agg 27 _ rfl rfl rfl (rb.map bv) (load_of OA15.out) _ Try.underlying27 rfl (i27.trans (by rw [List.length_map, LR.out])) ?_) |
          (refine wpList_store_own (cs := rb.map bv) 27 _ _ rfl rfl rfl rfl rfl (i27.trans (by rw [List.length_map, LR.out])) (bv_one _) A14.out (by rw [List.length_map, LR.out]; decide) ?_; intro w15 c1 c2; have o6 := Own.row1 c1; rw [splice_all _ _ (by rw [List.length_map, LR.out, A14.out.len])] at o6; have OB15 := Lib.hid o6; have m15 := nw_of_gb N14.out c2 (by intro x e; injection e with e; subst e; exact Y14.out); have T15 := Lib.hid (T13.out.more m15); have OA15 := Lib.hid (OA13.out.nw m15); clear o6 c1 c2 m15) |
          (refine wpList_alloc (size := 64) 27 rfl rfl w.heap.size i0 HI.out HZ.out (by kernel_rfl) T13.out.nw.size ?_; intro y15 w14 a1 a2 a3; have A14 := Lib.hid a1; have N14 := Lib.hid a2; have Y14 := Lib.hid a3; clear a1 a2 a3) |
          (refine (now_eq T12.out.b (by omega) 3 _ HB12.out HNW.out).mono ?_; rintro e w13 ⟨rfl, n13⟩; have T13 := Lib.hid (T12.out.more n13); have OA13 := Lib.hid (OA12.out.nw n13); clear n13) |
          (refine wpList_store_own (cs := rb.map bv) 27 _ _ rfl rfl rfl rfl rfl (i27.trans (by rw [List.length_map, LR.out])) (bv_one _) A11.out (by rw [List.length_map, LR.out]; decide) ?_; intro w12 c1 c2; have o6 := Own.row1 c1; rw [splice_all _ _ (by rw [List.length_map, LR.out, A11.out.len])] at o6; have OA12 := Lib.hid o6; have m12 := nw_of_gb N11.out c2 (by intro x e; injection e with e; subst e; exact Y11.out); have T12 := Lib.hid (T10.out.more m12); have HB12 := HB10; clear o6 c1 c2 m12) |
          (refine wpList_alloc (size := 64) 27 rfl rfl w.heap.size i0 HI.out HZ.out (by kernel_rfl) T10.out.nw.size ?_; intro y13 w11 a1 a2 a3; have A11 := Lib.hid a1; have N11 := Lib.hid a2; have Y11 := Lib.hid a3; clear a1 a2 a3) |
          (refine (now_eq T9.out.a (by omega) 3 _ HA8.out HNW.out).mono ?_; rintro e w10 ⟨rfl, n10⟩; have T10 := Lib.hid (T9.out.more n10); have HB10 := HB9; clear n10) |
          (refine (does_any T8.out.b (by omega) (by rw [doesM_len, LB.out]; decide) kk bk HBK.out p HP.out.1.2.2).mono ?_; intro e w9 h9; obtain ⟨rfl, F9, t9, k9⟩ := T8.out.stepB h9; have T9 := Lib.hid t9; have HB9 := Lib.hid (show (doesM (doesM Mb 3 b3 o) kk bk p)[3]? = some (stepB b3 o) from by rw [doesM_other p HP.out.2.1 HP.out.2.2.1]; exact HB8.out); clear t9 k9 h9) |
          (refine wpList_load_agg 43 _ rfl rfl rfl (oc p) (HP.out.2.2.2 _ T8.out.nw) _ Try.underlying43 rfl (i43.trans (by rw [oc_len HP.out.1.2.2])) ?_) |
          (refine (now_eq T8.out.a (by omega) 3 _ HA8.out HNW.out).mono ?_; rintro e w10 ⟨rfl, n10⟩; have T10 := Lib.hid (T8.out.more n10); have HB10 := HB8; clear n10) |
          (refine (does_any T7.out.b (by omega) (by rw [LB.out]; decide) 3 b3 B3.out o HO.out.2.2).mono ?_; intro e w8 h8; obtain ⟨rfl, F8, t8, k8⟩ := T7.out.stepB h8; have T8 := Lib.hid t8; try obtain ⟨c0, c1⟩ := HPC.out _ T8.out.nw; clear t8 k8 h8) |
          (refine wpList_load_agg 43 _ rfl rfl rfl (oc o) (by intro j u hu; rw [Nat.zero_add, OY7.out.cell j]; simpa using hu) _ Try.underlying43 rfl (i43.trans (by rw [oc_len HO.out.2.2])) ?_) |
          (refine (does_any T6.out.a (by omega) (by rw [LA.out]; decide) 3 b3 A3.out o HO.out.2.2).mono ?_; intro e w7 h7; obtain ⟨rfl, F7, t7, k7⟩ := T6.out.stepA h7; have T7 := Lib.hid t7; have OY7 := Lib.hid (OY6.out.eq (k7 y (by simp))); clear t7 k7 h7) |
          (refine wpList_load_agg 43 _ rfl rfl rfl (oc o) (by intro j u hu; rw [Nat.zero_add, OY6.out.cell j]; simpa using hu) _ Try.underlying43 rfl (i43.trans (by rw [oc_len HO.out.2.2])) ?_) |
          (refine wpList_store_own (cs := oc o) 43 _ _ rfl rfl rfl rfl rfl (i43.trans (by rw [oc_len HO.out.2.2])) (oc_one _) A5.out (by rw [oc_len HO.out.2.2]; decide) ?_; intro w6 c1 c2; have o6 := Own.row1 c1; rw [splice_all _ _ (by rw [oc_len HO.out.2.2, A5.out.len])] at o6; have OY6 := Lib.hid o6; have T6 := Lib.hid (T4.out.addVar (nw_of_gb N5.out c2 (by intro x e; injection e with e; subst e; exact Y5.out)) Y5.out (show y < w6.heap.size from o6.lt)); clear o6 c1 c2) |
          (refine wpList_alloc (size := 66) 43 rfl rfl w.heap.size i1 HI1.out HZ1.out (by kernel_rfl) T4.out.nw.size ?_; intro y w5 a1 a2 a3; have A5 := Lib.hid a1; have N5 := Lib.hid a2; have Y5 := Lib.hid a3; clear a1 a2 a3) |
          (refine wpList_load_agg 43 _ rfl rfl rfl (oc o) (HCL.out _ T4.out.nw) _ Try.underlying43 rfl (i43.trans (by rw [oc_len HO.out.2.2])) ?_))
        first
        | exact ⟨⟨i + 1, by go_num, by omega, hlt1, _, _, _, _, _, T15.out.noVar.moreK (by omega) (by omega), HLA.out, by rw [doesM_len]; exact HLB.out, HA8.out, HB12.out⟩, by simp [intOf]; omega⟩
        | exact ⟨⟨i + 1, by go_num, by omega, hlt1, _, _, _, _, _, T15.out.noVar.moreK (by omega) (by omega), HLA.out, HLB.out, HA8.out, HB12.out⟩, by simp [intOf]; omega⟩
    · have hcases : (¬ i < n) ∨ (i < n ∧ i = 60) := by omega
      clear hlt
      rcases hcases with hlt1 | ⟨hlt1, rfl⟩
      all_goals
        go_wp2
        go_ret
        exact ⟨rfl, T4.out.nw⟩
end Go.Proofs.Ytblkdmnfmnbbeaa

