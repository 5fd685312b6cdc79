/- The walk of ScriptFirst. -/
import Derived.Test.YtmcgfnfhpcddlaaJX
import Derived.Test.YtmcgfnfhpcddlaaJK
set_option linter.unusedVariables false
set_option linter.unusedSimpArgs false
namespace Go.Proofs.Ytmcgfnfhpcddlaa
open Go.RowKit Go.BW

set_option maxRecDepth 100000 in
set_option maxHeartbeats 8000000 in
theorem first_walk {w : World} {B : Nat} {x : Sc} (h : SOk w B x) (hB : B ≤ w.heap.size) {keep : Nat} (hkp : keep < 18446744073709551616) (at0 : Int) : Calls Try.prog 11 #[sv x, .int .u64 (keep : Int), .int .i64 at0] w (Ret (.bool true) w) := by
  have HSH := Lib.hid (fun w' => shown_any w')
  unfold Ret at HSH
  have HT := Lib.hid (fun w' (k : Nw w w') => tame_any (h.nw k hB) (Nat.le_trans hB k.size))
  have hok := tameS_ok h.scrOk
  have hrt := tameS_right (scr x)
  obtain ⟨T, hT⟩ : ∃ T, tameS (scr x) = T := ⟨_, rfl⟩
  rw [hT] at HT hok hrt
  unfold ScPost sv at HT
  unfold sv
  obtain ⟨num, A, n, c, sz, bl, D, m, d, acts⟩ := x
  obtain ⟨tn, tz, tb, ta⟩ := T
  simp only at HT ⊢
  have hbox := Obj1.new w 25 #[.int .i64 num, .slice A n c, .int .i64 bl, .slice D m d]
  have hg0 := World.grownBy_alloc w (.cells #[.int .i64 num, .slice A n c, .int .i64 bl, .slice D m d] 25) none
  obtain ⟨W, hW⟩ : ∃ W, w.alloc (.cells #[.int .i64 num, .slice A n c, .int .i64 bl, .slice D m d] 25) = W := ⟨_, rfl⟩
  obtain ⟨y, hy⟩ : ∃ y, w.heap.size = y := ⟨_, rfl⟩
  rw [hW] at hbox hg0
  rw [hy] at hbox
  have B0 := Lib.hid hbox; have N0 := Lib.hid hg0
  have hwy : w.heap.size ≤ y := by omega
  have HRT := Lib.hid hrt; have HOK := Lib.hid hok; have HKP := Lib.hid hkp; have HWY := Lib.hid hwy
  clear hbox hg0 h hrt hok hT hkp hB
  go_enter Try.func11, Try.ntmps11
  go_upto_region 3 with (first
    | ((with_reducible refine wpList_store_obj 25 _ _ (by with_unfolding_all exact rfl) (by with_unfolding_all exact rfl) [.int .i64 tn, .slice A2 n2 c2, .int .i64 tb, .slice D2 m2 d2] (by with_unfolding_all exact rfl) (by with_unfolding_all exact rfl) (by with_unfolding_all exact rfl) (by kernel_rfl) (sc_one _ _ _ _ _ _ _ _) P2.out (by with_unfolding_all exact rfl) ?_); intro w3 s3 g3)
    | ((with_reducible refine (HT.out _ N1.out).mono ?_); rintro e w2 ⟨A2, D2, n2, c2, m2, d2, rfl, o2, q2, k2⟩; have P2 := Lib.hid (B1.out.nw k2); have N2 := Lib.hid (gb_trans N1.out k2); have O2 := Lib.hid (o2.more N1.out.size); have Q2 := Lib.hid (q2.more N1.out.size))
    | ((with_reducible refine wpList_load_obj 25 _ (by with_unfolding_all exact rfl) (by with_unfolding_all exact rfl) (by with_unfolding_all exact rfl) B1.out _ Try.underlying25 (by with_unfolding_all exact rfl) (by kernel_rfl) ?_))
    | ((with_reducible refine (HSH.out _).mono ?_); rintro e w1 ⟨rfl, k1⟩; have B1 := Lib.hid (B0.out.nw k1); have N1 := Lib.hid (gb_trans N0.out k1)))
  have P3 := Lib.hid s3; have Z3 := Lib.hid (own_keep25 O2.out P2.out g3); have A3 := Lib.hid (own_keep25 Q2.out P2.out g3)
  have N3 := Lib.hid (nw_of_gb N2.out g3 (fun q hq => by injection hq with hq; omega))
  have HMA := Lib.hid (show ta.length = m2 from A3.out.lenL actC_len (by decide))
  clear s3 g3 o2 q2 k2 k1 P2 N2 O2 Q2 B1 N1 B0 N0 HT HSH hy hW hwy
  obtain ⟨aq, haq⟩ : ∃ aq, at0 % 1024 = aq := ⟨_, rfl⟩
  obtain ⟨at1, hat1⟩ : ∃ at1 : Nat, 1 + aq = (at1 : Int) := ⟨(1 + aq).toNat, by omega⟩
  have hat2 : at1 ≤ 1024 := by omega
  have HAT := Lib.hid hat2
  have m1 : bits BinOp.and IntKind.i64 at0 1023 = aq := by rw [← haq]; exact and_m _ _ 10 (by decide) (by decide) _ (by decide)
  have hwa : IntKind.i64.wrap (1 + aq) = (at1 : Int) := by rw [IntKind.wrap_i64]; omega
  have sok3 : SOk w3 w3.heap.size ⟨tn, A2, n2, c2, tz, tb, D2, m2, d2, ta⟩ := ⟨Z3.out.rd, Z3.out.cap.1, Z3.out.cap.2, A3.out.rd, A3.out.cap.1, A3.out.cap.2, HOK.out.a⟩
  have HM := Lib.hid (show m2 ≤ 120 from by rw [← HMA.out]; exact (rightS_parts HRT.out).2.2.2.1)
  have HUN' := unheard_any sok3 (Nat.le_refl _) (by exact HM.out)
  unfold UnPost sv at HUN'
  have HUN := Lib.hid HUN'
  have S3 := Lib.hid sok3
  clear haq hat1 hat2 HUN' sok3 Z3 A3
  go_upto_region 4 with (first
    | (refine wpList_toy346 _ _ _ rfl rfl (keep := keep) (t := at1) (odd := unS un) (unS_len un) rfl rfl rfl ?_)
    | (go_at_call 24; (with_reducible refine HUN.out.mono ?_); rintro e w4 ⟨un, rfl, hun, n4⟩)
    | ((with_reducible refine wpList_load_obj 25 _ (by with_unfolding_all exact rfl) (by with_unfolding_all exact rfl) (by with_unfolding_all exact rfl) P3.out _ Try.underlying25 (by with_unfolding_all exact rfl) (by kernel_rfl) ?_)))
  have gT := World.grownBy_alloc w4 (.cells (toy0C keep at1 (unS un)) 35) none
  have xT := Obj1.new w4 35 (toy0C keep at1 (unS un))
  obtain ⟨W4, hW⟩ : ∃ V, w4.alloc (.cells (toy0C keep at1 (unS un)) 35) = V := ⟨_, rfl⟩
  obtain ⟨t, ht⟩ : ∃ t, w4.heap.size = t := ⟨_, rfl⟩
  rw [hW] at gT xT
  rw [ht] at xT ⊢
  rw [hW]
  have n34 := gb_trans n4 gT
  have HR := run_first_any (S3.out.nw n34 (Nat.le_refl _)) n34.size (by exact HRT.out) xT HAT.out hun HKP.out (by have := n4.size; omega)
  unfold sv tIf pv FirstR at HR
  have hyt : y ≠ t := (P3.out.nw n34).ne xT (by decide)
  have P4 := Lib.hid (P3.out.nw n34); have N4 := Lib.hid (gb_trans N3.out n34); have S4 := Lib.hid (S3.out.nw n34 (Nat.le_refl _))
  have HR' := Lib.hid HR
  have hwt : w.heap.size ≤ t := by have := N3.out.size; have := n4.size; omega
  have hBt : w3.heap.size ≤ t := by have := n4.size; omega
  have hB4 : w3.heap.size ≤ W4.heap.size := n34.size
  have HUN := Lib.hid hun
  clear gT xT hW ht HR P3 n34 n4 m1 hwa S3 hun
  go_upto_region 5 with (first
    | (go_at_call 14; (with_reducible refine HR'.out.mono ?_); rintro e w5 ⟨n, ok, E, rfl, hi, hnm, ⟨cs, ot, ot4, ot7⟩, c5⟩)
    | ((with_reducible refine wpList_load_obj 25 _ (by with_unfolding_all exact rfl) (by with_unfolding_all exact rfl) (by with_unfolding_all exact rfl) P4.out _ Try.underlying25 (by with_unfolding_all exact rfl) (by kernel_rfl) ?_)))
  have P5 := Lib.hid (P4.out.chg c5 (by simpa using hyt))
  have p3 := P5.out.cell 3
  have S5 := Lib.hid (S4.out.chg c5 (by intro f hf; simp at hf; omega) hB4)
  have N5 := Lib.hid (((Chg.of_nw (F := [t]) N4.out).trans c5 (fun _ h => .inl h)).nw (fun q hq => by simp at hq; omega))
  have HB5 := Lib.hid (show w3.heap.size ≤ w5.heap.size from Nat.le_trans hB4 c5.size)
  have OT := Lib.hid ot; have OT4 := Lib.hid ot4; have OT7 := Lib.hid ot7; have HI := Lib.hid hi
  clear c5 ot ot4 ot7 hi P4 N4 S4 HR' hB4
  rcases ok with _ | _
  rotate_left
  · clear HI
    go_wp2_with fail
    go_ret
    exact ⟨rfl, N5.out⟩
  rcases (show n = m2 ∨ n < m2 by omega) with rfl | hlt
  · have d1 : decide ((n : Int) ≤ (n : Int)) = true := decide_eq_true (by omega)
    clear HI
    go_wp2_with fail
    go_ret
    exact ⟨rfl, N5.out⟩
  have d1 : decide ((m2 : Int) ≤ (n : Int)) = false := decide_eq_false (by omega)
  have d0 : decide ((n : Int) < 0) = false := decide_eq_false (by omega)
  have hm120 : m2 ≤ 120 := HM.out
  have HLT := Lib.hid hlt
  have hmd : m2 ≤ d2 := S5.out.ac
  obtain ⟨n1, hn1⟩ : ∃ n1, n + 1 = n1 := ⟨_, rfl⟩
  have hn1i : (n : Int) + 1 = (n1 : Int) := by omega
  have HN1 := Lib.hid hn1
  have hw5 : w.heap.size ≤ w5.heap.size := N5.out.size
  have HC0 := Lib.hid (show w3.heap.size ≤ w5.heap.size from HB5.out)
  go_upto_region 10 with (first | ((with_reducible refine wpList_load_obj 25 _ (by with_unfolding_all exact rfl) (by with_unfolding_all exact rfl) (by with_unfolding_all exact rfl) P5.out _ Try.underlying25 (by with_unfolding_all exact rfl) (by kernel_rfl) ?_)))
  have gU := World.grownBy_alloc w5 (.cells #[.int .i64 tn, .slice A2 n2 c2, .int .i64 tb, .slice D2 m2 d2] 25) none
  have xU := Obj1.new w5 25 #[.int .i64 tn, .slice A2 n2 c2, .int .i64 tb, .slice D2 m2 d2]
  obtain ⟨W6, hW⟩ : ∃ V, w5.alloc (.cells #[.int .i64 tn, .slice A2 n2 c2, .int .i64 tb, .slice D2 m2 d2] 25) = V := ⟨_, rfl⟩
  obtain ⟨u6, hu⟩ : ∃ y, w5.heap.size = y := ⟨_, rfl⟩
  rw [hW] at gU xU
  rw [hu] at xU ⊢
  rw [hW]
  have hu6w : w.heap.size ≤ u6 := by have := N5.out.size; omega
  have hu63 : w3.heap.size ≤ u6 := by have := HB5.out; omega
  have hyu6 : y ≠ u6 := by have := P5.out.lt; omega
  have Y6 := Lib.hid xU; have P6 := Lib.hid (P5.out.nw gU); have S6 := Lib.hid (S5.out.nw gU HB5.out); have N6 := Lib.hid (gb_trans N5.out gU); have OT6' := Lib.hid (OT.out.nw gU); have HB6 := Lib.hid (Nat.le_trans HB5.out gU.size)
  clear gU xU hW hu
  have p3 := P6.out.cell 3
  have hn1d : n1 ≤ d2 := by omega
  go_upto_region 11 with (first
    | ((with_reducible refine wpList_store_obj' 23 _ _ (by with_unfolding_all exact rfl) (by with_unfolding_all exact rfl) (i := 3) (.slice D2 n1 d2) (by with_unfolding_all exact rfl) (by with_unfolding_all exact rfl) (by kernel_rfl) (by with_unfolding_all exact rfl) Y6.out (by with_unfolding_all exact rfl) (by with_unfolding_all exact rfl) ?_); intro w7 s7 g7)
    | (refine wpList_slice_hi 23 44 Try.underlying23 (size := 69) (by kernel_rfl) _ _ rfl rfl D2 m2 d2 n1 rfl rfl hn1d ?_))
  have cu : Chg W6 w7 [u6] := Chg.of_gb g7 (by intro q hq; injection hq with hq; simp [hq])
  have Y7 := Lib.hid (show Obj1 w7 u6 25 #[.int .i64 tn, .slice A2 n2 c2, .int .i64 tb, .slice D2 n1 d2] from s7)
  have P7 := Lib.hid (P6.out.chg cu (by simpa using hyu6)); have S7 := Lib.hid (S6.out.chg cu (by intro f hf; simp at hf; omega) HB6.out)
  have N7 := Lib.hid (nw_of_gb N6.out g7 (fun q hq => by injection hq with hq; omega)); have OT7' := Lib.hid (OT6'.out.chg cu (by simpa using (Y6.out.ne OT6'.out (by decide)).symm)); have HB7 := Lib.hid (Nat.le_trans HB6.out cu.size)
  clear cu s7 g7 P6 S6 N6 OT6' Y6 p3
  have k4 : ∀ w', Nw w7 w' → w'.cell? ⟨t, 4, none⟩ = some (.int .i64 (at1 : Int)) := fun w' q => by rw [(OT7'.out.nw q).cell 4]; exact OT4.out
  have LD := Lib.hid (show ∀ w', Nw w7 w' → ∀ j u, ((unS un).map bv)[j]? = some u → w'.cell? ⟨t, 7 + j, none⟩ = some u from fun w' q j u hu => by rw [(OT7'.out.nw q).cell (7 + j)]; exact OT7.out j u hu)
  refine wp_region_held (S := (fun w' => Nw w7 w')) (by kernel_rfl) ?_
  change wpAnyH _ _ _ _ _ _ _ _ (World.drew w7)
  refine held_seg' (l := [0, 1, 2, 3, 4, 5, 6, 7, 8, 9]) (fuel := 2) rfl (by kernel_rfl) (by kernel_rfl) (by simp only [List.filterMap_cons, List.filterMap_nil, List.getElem?_toArray, List.getElem?_cons_succ, List.getElem?_cons_zero]; rfl) (fun _ _ d _ _ h => by cases d <;> exact h) (gb_drew (Nw.refl w7)) ?_
  iterate 8 (refine wpYield_step rfl (fun K hK => ?_)
             apply Exists.intro
             refine ⟨fun w' hw' => ?_, ?_⟩
             · (go_simp; try with_reducible rfl)
             go_simp
             refine hK _ ?_
             clear hK K)
  refine wpYield_load_agg 33 _ rfl rfl rfl ((unS un).map bv) (fun w' hw' j u hu => LD.out w' hw' j u hu) _ Try.underlying33 rfl (i33' (unS_len un)) ?_
  refine wpYield_toy346 _ _ _ rfl rfl (keep := keep) (t := at1) (odd := unS un) (unS_len un) rfl rfl rfl ?_
  refine wpYield_nil ?_
  refine held_eff 10 rfl (by kernel_rfl) rfl (fun K hK => ?_)
  go_simp
  obtain ⟨W8, hW⟩ : ∃ V, (w7.alloc (.cells (toy0C keep at1 (unS un)) 35)).drew = V := ⟨_, rfl⟩
  have gT : Nw w7 W8 := by rw [← hW]; exact gb_drew (World.grownBy_alloc w7 _ none)
  have xT : Obj1 W8 w7.heap.size 35 (toy0C keep at1 (unS un)) := by rw [← hW]; exact Obj1.new w7 35 (toy0C keep at1 (unS un))
  have G8 := Lib.hid gT
  refine hK _ _ ⟨by rw [hW]; exact G8.out, ?_⟩
  clear hK K k4
  rw [hW]
  obtain ⟨t8, ht⟩ : ∃ t, w7.heap.size = t := ⟨_, rfl⟩
  rw [ht] at xT ⊢
  have ht8 : w3.heap.size ≤ t8 := by have := HB7.out; omega
  have hwt8 : w.heap.size ≤ t8 := by have := N7.out.size; omega
  have hyt8 : y ≠ t8 := by have := P7.out.lt; omega
  have htt8 : t ≠ t8 := by have := OT7'.out.lt; omega
  have hut8 : u6 ≠ t8 := by have := Y7.out.lt; omega
  have HR2 := run_upto (S7.out.nw gT HB7.out) (Nat.le_trans HB7.out gT.size) HRT.out HI.out HLT.out xT HAT.out HKP.out ht8
  unfold sv tIf pv at HR2
  simp only at HR2
  rw [HN1.out] at HR2
  have HR2' := Lib.hid HR2
  have Y8 := Lib.hid (Y7.out.nw gT); have P8 := Lib.hid (P7.out.nw gT); have S8 := Lib.hid (S7.out.nw gT HB7.out); have N8 := Lib.hid (gb_trans N7.out gT); have OT8' := Lib.hid (OT7'.out.nw gT); have HB8 := Lib.hid (Nat.le_trans HB7.out gT.size)
  clear gT xT hW ht HR2 Y7 P7 S7 N7 OT7' HB7 LD
  refine held_seg' (l := [11]) (fuel := 0) rfl (by kernel_rfl) (by kernel_rfl) (by simp only [List.filterMap_cons, List.filterMap_nil, List.getElem?_toArray, List.getElem?_cons_succ, List.getElem?_cons_zero]; rfl) (fun _ _ d _ _ h => by cases d <;> exact h) G8.out ?_
  (refine wpYield_step rfl (fun K hK => ?_)
   apply Exists.intro
   refine ⟨fun w' hw' => ?_, ?_⟩
   · (go_simp; try with_reducible rfl)
   go_simp
   refine hK _ ?_
   clear hK K)
  refine wpYield_nil ?_
  refine wpAnyH_done (by kernel_rfl) ?_ _
  clear G8
  go_upto_region 13 with (first
    | (go_at_call 14; (with_reducible refine HR2'.out.mono ?_); rintro e w9 ⟨rfl, c9⟩)
    | ((with_reducible refine wpList_load_obj 25 _ (by with_unfolding_all exact rfl) (by with_unfolding_all exact rfl) (by with_unfolding_all exact rfl) Y8.out _ Try.underlying25 (by with_unfolding_all exact rfl) (by kernel_rfl) ?_)))
  have P9 := Lib.hid (P8.out.chg c9 (by simpa using hyt8)); have S9 := Lib.hid (S8.out.chg c9 (by intro f hf; simp at hf; omega) HB8.out); have OT9 := Lib.hid (OT8'.out.chg c9 (by simpa using htt8)); have HB9 := Lib.hid (Nat.le_trans HB8.out c9.size)
  have N9 := Lib.hid (((Chg.of_nw (F := [t8]) N8.out).trans c9 (fun _ h => .inl h)).nw (fun q hq => by simp at hq; omega))
  clear c9 P8 S8 N8 OT8' HB8 Y8 HR2'
  go_upto_region 14 with (first | ((with_reducible refine wpList_load_obj 25 _ (by with_unfolding_all exact rfl) (by with_unfolding_all exact rfl) (by with_unfolding_all exact rfl) P9.out _ Try.underlying25 (by with_unfolding_all exact rfl) (by kernel_rfl) ?_)))
  have gU := World.grownBy_alloc w9 (.cells #[.int .i64 tn, .slice A2 n2 c2, .int .i64 tb, .slice D2 m2 d2] 25) none
  have xU := Obj1.new w9 25 #[.int .i64 tn, .slice A2 n2 c2, .int .i64 tb, .slice D2 m2 d2]
  obtain ⟨W10, hW⟩ : ∃ V, w9.alloc (.cells #[.int .i64 tn, .slice A2 n2 c2, .int .i64 tb, .slice D2 m2 d2] 25) = V := ⟨_, rfl⟩
  obtain ⟨u10, hu⟩ : ∃ y, w9.heap.size = y := ⟨_, rfl⟩
  rw [hW] at gU xU
  rw [hu] at xU ⊢
  rw [hW]
  have hu10w : w.heap.size ≤ u10 := by have := N9.out.size; omega
  have hu103 : w3.heap.size ≤ u10 := by have := HB9.out; omega
  have hyu10 : y ≠ u10 := by have := P9.out.lt; omega
  have Y10 := Lib.hid xU; have P10 := Lib.hid (P9.out.nw gU); have S10 := Lib.hid (S9.out.nw gU HB9.out); have N10 := Lib.hid (gb_trans N9.out gU); have OT10' := Lib.hid (OT9.out.nw gU); have HB10 := Lib.hid (Nat.le_trans HB9.out gU.size)
  clear gU xU hW hu
  have p3 := P10.out.cell 3
  have hnd : n ≤ d2 := by omega
  go_upto_region 15 with (first
    | ((with_reducible refine wpList_store_obj' 23 _ _ (by with_unfolding_all exact rfl) (by with_unfolding_all exact rfl) (i := 3) (.slice D2 n d2) (by with_unfolding_all exact rfl) (by with_unfolding_all exact rfl) (by kernel_rfl) (by with_unfolding_all exact rfl) Y10.out (by with_unfolding_all exact rfl) (by with_unfolding_all exact rfl) ?_); intro w11 s11 g11)
    | (refine wpList_slice_hi 23 44 Try.underlying23 (size := 69) (by kernel_rfl) _ _ rfl rfl D2 m2 d2 n rfl rfl hnd ?_))
  have cu : Chg W10 w11 [u10] := Chg.of_gb g11 (by intro q hq; injection hq with hq; simp [hq])
  have Y11 := Lib.hid (show Obj1 w11 u10 25 #[.int .i64 tn, .slice A2 n2 c2, .int .i64 tb, .slice D2 n d2] from s11)
  have P11 := Lib.hid (P10.out.chg cu (by simpa using hyu10)); have S11 := Lib.hid (S10.out.chg cu (by intro f hf; simp at hf; omega) HB10.out)
  have N11 := Lib.hid (nw_of_gb N10.out g11 (fun q hq => by injection hq with hq; omega)); have OT11' := Lib.hid (OT10'.out.chg cu (by simpa using (Y10.out.ne OT10'.out (by decide)).symm)); have HB11 := Lib.hid (Nat.le_trans HB10.out cu.size)
  clear cu s11 g11 P10 S10 N10 OT10' Y10 p3
  have LD := Lib.hid (show ∀ j u, ((unS un).map bv)[j]? = some u → w11.cell? ⟨t, 7 + j, none⟩ = some u from fun j u hu => by rw [OT11'.out.cell (7 + j)]; exact OT7.out j u hu)
  go_upto_region 16 with (first
    | (refine wpList_toy36 _ _ rfl rfl (keep := keep) (odd := unS un) (unS_len un) rfl rfl ?_)
    | (refine wpList_load_agg 33 _ rfl rfl rfl ((unS un).map bv) (fun j u hu => LD.out j u hu) _ Try.underlying33 rfl (i33' (unS_len un)) ?_))
  have gT := World.grownBy_alloc w11 (.cells (toy0C keep 0 (unS un)) 35) none
  have xT := Obj1.new w11 35 (toy0C keep 0 (unS un))
  obtain ⟨W12, hW⟩ : ∃ V, w11.alloc (.cells (toy0C keep 0 (unS un)) 35) = V := ⟨_, rfl⟩
  obtain ⟨t12, ht⟩ : ∃ t, w11.heap.size = t := ⟨_, rfl⟩
  rw [hW] at gT xT
  rw [ht] at xT ⊢
  rw [hW]
  have ht12 : w3.heap.size ≤ t12 := by have := HB11.out; omega
  have hwt12 : w.heap.size ≤ t12 := by have := N11.out.size; omega
  have HR3 := run_honest ((S11.out.nw gT HB11.out).take (k := n) (by have := HLT.out; show n ≤ m2; omega)) (Nat.le_trans HB11.out gT.size) (right_take HRT.out n) xT (unS_len un) HKP.out ht12
  unfold sv tIf pv HonestPost at HR3
  simp only at HR3
  have HR3' := Lib.hid HR3
  have Y12 := Lib.hid (Y11.out.nw gT); have N12 := Lib.hid (gb_trans N11.out gT)
  clear gT xT hW ht HR3 Y11 P11 S11 N11 OT11' HB11 LD
  go_upto_region 17 with (first
    | (go_at_call 14; (with_reducible refine HR3'.out.mono ?_); rintro e w13 ⟨rfl, c13⟩)
    | ((with_reducible refine wpList_load_obj 25 _ (by with_unfolding_all exact rfl) (by with_unfolding_all exact rfl) (by with_unfolding_all exact rfl) Y12.out _ Try.underlying25 (by with_unfolding_all exact rfl) (by kernel_rfl) ?_)))
  have N13 := Lib.hid (((Chg.of_nw (F := [t12]) N12.out).trans c13 (fun _ h => .inl h)).nw (fun q hq => by simp at hq; omega))
  have e1 : ((n : Int) == (n : Int)) = true := by simp
  clear c13
  go_wp2_with fail
  go_ret
  exact ⟨rfl, N13.out⟩
theorem first_all {w : World} (x : Sc) (h : SIn w x) (k : Int) (hk : 0 ≤ k ∧ k ≤ 18446744073709551615) (a : Int) (ha : -9223372036854775808 ≤ a ∧ a ≤ 9223372036854775807) : Calls Try.prog 11 #[sv x, .int .u64 k, .int .i64 a] w (Ret (.bool true) w) := by
  obtain ⟨keep, rfl⟩ := Int.eq_ofNat_of_zero_le hk.1
  exact first_walk h (Nat.le_refl _) (by omega) a
end Go.Proofs.Ytmcgfnfhpcddlaa

