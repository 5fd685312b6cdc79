/- The walk of ScriptWrites. -/
import Derived.Test.YtmcgfnfhpcddlaaKC
import Derived.Test.YtmcgfnfhpcddlaaJK
set_option linter.unusedVariables false
set_option linter.unusedSimpArgs false
namespace Go.Proofs.Ytmcgfnfhpcddlaa
open Go.RowKit Go.BW

theorem cut_sz (s : Scr) : (cutS s).sz.length ≤ 15 ∧ (cutS s).acts.length ≤ 125 := by
  unfold cutS; simp only [List.length_take]; omega
set_option maxRecDepth 100000 in
set_option maxHeartbeats 8000000 in
theorem writes_walk {w : World} {B : Nat} {x : Sc} (h : SOk w B x) (hB : B ≤ w.heap.size) : Calls Try.prog 5 #[sv x] w (Ret (.bool true) w) := by
  have HSH := Lib.hid (fun w' => shown_any w')
  unfold Ret at HSH
  have HT := Lib.hid (fun w' (k : Nw w w') => cut_any (h.nw k hB) (Nat.le_trans hB k.size))
  have hok := cut_ok h.scrOk
  have hsz := cut_sz (scr x)
  obtain ⟨T, hT⟩ : ∃ T, cutS (scr x) = T := ⟨_, rfl⟩
  rw [hT] at HT hok hsz
  unfold ScPost sv at HT
  unfold sv
  obtain ⟨num, A, n, c, sz, bl, D, m, d, acts⟩ := x
  obtain ⟨tn, tz, tb, ta⟩ := T
  simp only at HT hsz ⊢
  have hbox := Obj1.new w 25 #[.int .i64 num, .slice A n c, .int .i64 bl, .slice D m d]
  have hg0 := World.grownBy_alloc w (.cells #[.int .i64 num, .slice A n c, .int .i64 bl, .slice D m d] 25) none
  obtain ⟨W, hW⟩ : ∃ W, w.alloc (.cells #[.int .i64 num, .slice A n c, .int .i64 bl, .slice D m d] 25) = W := ⟨_, rfl⟩
  obtain ⟨y, hy⟩ : ∃ y, w.heap.size = y := ⟨_, rfl⟩
  rw [hW] at hbox hg0
  rw [hy] at hbox
  have B0 := Lib.hid hbox; have N0 := Lib.hid hg0
  have hwy : w.heap.size ≤ y := by omega
  have HOK := Lib.hid hok
  clear hbox hg0 h hok hT
  go_enter Try.func5, Try.ntmps5
  go_upto_region 2 with ((with_reducible refine (HSH.out _).mono ?_); rintro e w1 ⟨rfl, k1⟩; have B1 := Lib.hid (B0.out.nw k1); have N1 := Lib.hid (gb_trans N0.out k1))
  clear k1
  go_upto_region 3 with (first
    | ((with_reducible refine wpList_load_obj 25 _ (by with_unfolding_all exact rfl) (by with_unfolding_all exact rfl) (by with_unfolding_all exact rfl) B1.out _ Try.underlying25 (by with_unfolding_all exact rfl) (by kernel_rfl) ?_))
    | ((with_reducible refine (HT.out _ N1.out).mono ?_); rintro e w2 ⟨A2, D2, n2, c2, m2, d2, rfl, o2, q2, k2⟩))
  have gY := World.grownBy_alloc w2 (.cells #[.int .i64 tn, .slice A2 n2 c2, .int .i64 tb, .slice D2 m2 d2] 25) none
  have xY := Obj1.new w2 25 #[.int .i64 tn, .slice A2 n2 c2, .int .i64 tb, .slice D2 m2 d2]
  obtain ⟨Y, hY⟩ : ∃ V, w2.alloc (.cells #[.int .i64 tn, .slice A2 n2 c2, .int .i64 tb, .slice D2 m2 d2] 25) = V := ⟨_, rfl⟩
  obtain ⟨z, hz⟩ : ∃ y, w2.heap.size = y := ⟨_, rfl⟩
  rw [hY] at gY xY
  rw [hz] at xY ⊢
  rw [hY]
  have B2 := Lib.hid (B1.out.nw k2)
  have hyz : y ≠ z := by have := B2.out.lt; omega
  have B3 := Lib.hid (B2.out.nw gY); have X3 := Lib.hid xY
  have N3 := Lib.hid (gb_trans (gb_trans N1.out k2) gY)
  have O3 := Lib.hid ((o2.more N1.out.size).nw gY); have Q3 := Lib.hid ((q2.more N1.out.size).nw gY)
  clear gY xY hY hz k2 o2 q2 B2 B1 N1 B0 N0
  go_upto_region 4 with (first
    | ((with_reducible refine wpList_store_obj 25 _ _ (by with_unfolding_all exact rfl) (by with_unfolding_all exact rfl) [.int .i64 tn, .slice A5 n5 c5, .int .i64 tb, .slice D5 m5 d5] (by with_unfolding_all exact rfl) (by with_unfolding_all exact rfl) (by with_unfolding_all exact rfl) (by kernel_rfl) (sc_one _ _ _ _ _ _ _ _) B4.out (by with_unfolding_all exact rfl) ?_); intro w5 s5 g5)
    | ((with_reducible refine wpList_load_obj 25 _ (by with_unfolding_all exact rfl) (by with_unfolding_all exact rfl) (by with_unfolding_all exact rfl) B3.out _ Try.underlying25 (by with_unfolding_all exact rfl) (by kernel_rfl) ?_))
    | ((with_reducible refine (HT.out _ N3.out).mono ?_); rintro e w4 ⟨A5, D5, n5, c5, m5, d5, rfl, o4, q4, k4⟩; have B4 := Lib.hid (B3.out.nw k4); have X4 := Lib.hid (X3.out.nw k4); have N4 := Lib.hid (gb_trans N3.out k4); have O4 := Lib.hid (O3.out.nw k4); have Q4 := Lib.hid (Q3.out.nw k4); have U4 := Lib.hid (o4.more N3.out.size); have V4 := Lib.hid (q4.more N3.out.size)))
  have P5 := Lib.hid s5; have X5 := Lib.hid (Obj1.kept'' X4.out g5 (fun q hq => by injection hq with hq; omega))
  have O5 := Lib.hid (own_keep25 O4.out B4.out g5); have Q5 := Lib.hid (own_keep25 Q4.out B4.out g5); have U5 := Lib.hid (own_keep25 U4.out B4.out g5); have V5 := Lib.hid (own_keep25 V4.out B4.out g5)
  have N5 := Lib.hid (nw_of_gb N4.out g5 (fun q hq => by injection hq with hq; omega))
  have hnz : tz.length = n2 := by have h := O5.out.len; simpa using h
  have hma : ta.length = m2 := Q5.out.lenL actC_len (by decide)
  have SX := Lib.hid (show SOk w5 w5.heap.size ⟨tn, A2, n2, c2, tz, tb, D2, m2, d2, ta⟩ from ⟨O5.out.rd, O5.out.cap.1, O5.out.cap.2, Q5.out.rd, Q5.out.cap.1, Q5.out.cap.2, HOK.out.a⟩)
  have SY := Lib.hid (show SOk w5 w5.heap.size ⟨tn, A5, n5, c5, tz, tb, D5, m5, d5, ta⟩ from ⟨U5.out.rd, U5.out.cap.1, U5.out.cap.2, V5.out.rd, V5.out.cap.1, V5.out.cap.2, HOK.out.a⟩)
  clear s5 g5 o4 q4 k4 B3 X3 N3 O3 Q3 B4 X4 N4 O4 Q4 U4 V4 U5 V5 O5 Q5
  obtain ⟨S, hS⟩ : ∃ S : Scr, (⟨tn, tz, tb, ta⟩ : Scr) = S := ⟨_, rfl⟩
  obtain ⟨b5, hb5⟩ : ∃ b, w5.heap.size = b := ⟨_, rfl⟩
  rw [hb5] at SX SY
  have hle : b5 ≤ w5.heap.size := by omega
  have HB := Lib.hid (fun w' (k : Nw w5 w') => sbytes_any (SX.out.nw k hle) (Nat.le_trans hle k.size))
  have HC := Lib.hid (fun w' (k : Nw w5 w') => rbytes_any (SY.out.nw k hle) (Nat.le_trans hle k.size))
  have HM := Lib.hid (fun w' (k : Nw w5 w') => same_any (SX.out.nw k hle) (SY.out.nw k hle) (Nat.le_trans hle k.size) (Nat.le_trans hle k.size) rfl ⟨by simp only; omega, by simp only; omega⟩)
  have HR1 := Lib.hid (fun w' (k : Nw w5 w') => right_any (SX.out.nw k hle) (Nat.le_trans hle k.size))
  have HR2 := Lib.hid (fun w' (k : Nw w5 w') => rright_any (SY.out.nw k hle) (Nat.le_trans hle k.size))
  unfold BytesPost sv at HB
  unfold RBytesPost sv str at HC
  unfold sv Ret at HM
  unfold sv Ret at HR1
  unfold sv Ret at HR2
  simp only [scr] at HB HC HM HR1 HR2
  rw [hS] at HB HC HR1 HR2
  clear hS hb5 SX SY hsz HT HSH hnz hma
  obtain ⟨bo, hbo⟩ : ∃ b, bytesO S = b := ⟨_, rfl⟩
  obtain ⟨be', hbe⟩ : ∃ b, bytesE S = b := ⟨_, rfl⟩
  obtain ⟨br, hbr⟩ : ∃ b, rightS S = b := ⟨_, rfl⟩
  rw [hbo, hbe] at HB HC
  rw [hbr] at HR1 HR2
  clear hbo hbe hbr
  go_upto_region 5 with (first
    | ((with_reducible refine (HB.out _ (Nw.refl w5)).mono ?_); rintro e w6 ⟨Bb, nb, cb, rfl, o6, k6⟩)
    | ((with_reducible refine wpList_load_obj 25 _ (by with_unfolding_all exact rfl) (by with_unfolding_all exact rfl) (by with_unfolding_all exact rfl) X5.out _ Try.underlying25 (by with_unfolding_all exact rfl) (by kernel_rfl) ?_)))
  have P6 := Lib.hid (P5.out.nw k6); have K6 := Lib.hid k6; have O6 := Lib.hid o6
  clear o6 k6
  go_upto_region 6 with (first
    | ((with_reducible refine (HC.out _ K6.out).mono ?_); rintro e w7 ⟨rfl, k7⟩)
    | ((with_reducible refine wpList_load_obj 25 _ (by with_unfolding_all exact rfl) (by with_unfolding_all exact rfl) (by with_unfolding_all exact rfl) P6.out _ Try.underlying25 (by with_unfolding_all exact rfl) (by kernel_rfl) ?_)))
  have P7 := Lib.hid (P6.out.nw k7); have K7 := Lib.hid (gb_trans K6.out k7); have O7 := Lib.hid (O6.out.nw k7); have X7 := Lib.hid (X5.out.nw (gb_trans K6.out k7))
  clear k7 P6 K6 O6
  go_upto_region 7 with (first
    | ((with_reducible refine (HM.out _ K7.out).mono ?_); rintro e w8 ⟨rfl, k8⟩)
    | ((with_reducible refine wpList_load_obj 25 _ (by with_unfolding_all exact rfl) (by with_unfolding_all exact rfl) (by with_unfolding_all exact rfl) P7.out _ Try.underlying25 (by with_unfolding_all exact rfl) (by kernel_rfl) ?_))
    | ((with_reducible refine wpList_load_obj 25 _ (by with_unfolding_all exact rfl) (by with_unfolding_all exact rfl) (by with_unfolding_all exact rfl) X7.out _ Try.underlying25 (by with_unfolding_all exact rfl) (by kernel_rfl) ?_)))
  have P8 := Lib.hid (P7.out.nw k8); have K8 := Lib.hid (gb_trans K7.out k8); have O8 := Lib.hid (O7.out.nw k8); have X8 := Lib.hid (X7.out.nw k8)
  clear k8 P7 K7 O7 X7 P5 X5
  have e1 : (bo == bo) = true := by simp
  have e2 : (be' == be') = true := by simp
  have e3 : (br == br) = true := by simp
  have cz : ∀ w', Nw w8 w' → ∀ j u, ([.int .i64 tn, .slice A2 n2 c2, .int .i64 tb, .slice D2 m2 d2] : List Value)[j]? = some u → w'.cell? ⟨z, 0 + j, none⟩ = some u := fun w' k j u hu => by rw [Nat.zero_add]; have h := (X8.out.nw k).cell j; rw [h]; simpa using hu
  have cy : ∀ w', Nw w8 w' → ∀ j u, ([.int .i64 tn, .slice A5 n5 c5, .int .i64 tb, .slice D5 m5 d5] : List Value)[j]? = some u → w'.cell? ⟨y, 0 + j, none⟩ = some u := fun w' k j u hu => by rw [Nat.zero_add]; have h := (P8.out.nw k).cell j; rw [h]; simpa using hu
  refine wp_region_held (S := (fun w' => Nw w8 w')) (by kernel_rfl) ?_
  change wpAnyH _ _ _ _ _ _ _ _ (World.drew w8)
  refine held_seg' (l := [0, 1, 2, 3, 4, 5, 6, 7, 8, 9, 10, 11, 12, 13, 14, 15, 16, 18]) (fuel := 5) rfl (by kernel_rfl) (by kernel_rfl) (by simp only [List.filterMap_cons, List.filterMap_nil, List.getElem?_toArray, List.getElem?_cons_succ, List.getElem?_cons_zero]; rfl) (fun _ _ d _ _ h => by cases d <;> exact h) (gb_drew (Nw.refl w8)) ?_
  iterate 6 (refine wpYield_step rfl (fun K hK => ?_)
             apply Exists.intro
             refine ⟨fun w' hw' => ?_, ?_⟩
             · (go_simp; try with_reducible rfl)
             go_simp
             refine hK _ ?_
             clear hK K)
  refine wpYield_bytes_str 46 9 5 Try.underlying46 Try.underlying5 Try.underlying9 _ rfl rfl rfl (fun w' hw' => O8.out.rd.nw hw' (Nat.le_refl _)) ?_
  iterate 9 (refine wpYield_step rfl (fun K hK => ?_)
             apply Exists.intro
             refine ⟨fun w' hw' => ?_, ?_⟩
             · (go_simp; try with_reducible rfl)
             go_simp
             refine hK _ ?_
             clear hK K)
  refine wpYield_load_agg 25 _ rfl rfl rfl _ (fun w' hw' => cz w' hw') _ Try.underlying25 rfl (by kernel_rfl) ?_
  refine wpYield_load_agg 25 _ rfl rfl rfl _ (fun w' hw' => cy w' hw') _ Try.underlying25 rfl (by kernel_rfl) ?_
  refine wpYield_nil ?_
  refine held_eff 17 rfl (by kernel_rfl) rfl (fun K hK => ?_)
  go_simp
  refine (HR1.out _ (gb_drew K8.out)).mono ?_
  rintro e w9 ⟨rfl, k9⟩
  have K9 := Lib.hid (gb_trans (gb_drew (Nw.refl w8)) k9)
  refine hK _ _ ⟨K9.out, ?_⟩
  clear hK K k9
  refine held_eff 19 rfl (by kernel_rfl) rfl (fun K hK => ?_)
  go_simp
  refine (HR2.out _ (gb_trans K8.out K9.out)).mono ?_
  rintro e w10 ⟨rfl, k10⟩
  have K10 := Lib.hid (gb_trans K9.out k10)
  refine hK _ _ ⟨K10.out, ?_⟩
  clear hK K k10
  refine held_seg' (l := [20, 21, 22]) (fuel := 0) rfl (by kernel_rfl) (by kernel_rfl) (by simp only [List.filterMap_cons, List.filterMap_nil, List.getElem?_toArray, List.getElem?_cons_succ, List.getElem?_cons_zero]; rfl) (fun _ _ d _ _ h => by cases d <;> exact h) K10.out ?_
  iterate 3 (refine wpYield_step rfl (fun K hK => ?_)
             apply Exists.intro
             refine ⟨fun w' hw' => ?_, ?_⟩
             · (go_simp; try with_reducible rfl)
             go_simp
             refine hK _ ?_
             clear hK K)
  refine wpYield_nil ?_
  refine wpAnyH_done (by kernel_rfl) ?_ _
  go_wp2
  go_ret
  exact ⟨rfl, gb_trans N5.out (gb_trans K8.out K10.out)⟩
theorem writes_all {w : World} (x : Sc) (h : SIn w x) : Calls Try.prog 5 #[sv x] w (Ret (.bool true) w) := writes_walk h (Nat.le_refl _)
end Go.Proofs.Ytmcgfnfhpcddlaa

