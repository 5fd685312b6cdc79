/- The reference's bytes of an act, for all acts that may be. -/
import Derived.Test.YtmcgfnfhpcddlaaP
namespace Go.Proofs.Ytmcgfnfhpcddlaa
open Go.RowKit Go.BW

theorem numk (x : Int) (h0 : 0 ≤ x) (h1 : x ≤ 18446744073709551615) (k : Nat) (hk : k ≤ 8) {K : Int} (hK : K = (k : Int)) (w : World) : Calls Try.prog 37 #[.int .u64 x, .int .i64 K] w (fun e w' => e = .returned (.string ⟨(be k x.toNat).toArray⟩) ∧ Nw w w') := by
  have h := num_any x.toNat (by omega) k hk hK w
  rw [Int.toNat_of_nonneg h0] at h
  exact h
theorem num1 (x : Int) (h0 : 0 ≤ x) (h1 : x ≤ 18446744073709551615) (w : World) : Calls Try.prog 37 #[.int .u64 x, .int .i64 1] w (fun e w' => e = .returned (.string ⟨[b8 x].toArray⟩) ∧ Nw w w') := by
  have h := numk x h0 h1 1 (by decide) (K := 1) rfl w
  rw [be_one] at h
  exact h
set_option maxRecDepth 100000 in
set_option maxHeartbeats 8000000 in
theorem actbytes_any {a : Act} (hra : rightA a = true) (hoa : ActOk a) (w : World) : Calls Try.prog 38 #[.agg (actC a).toArray] w (Ret (str (actB a)) w) := by
  have hbx : ActO (w.alloc (.cells (actC a).toArray 44)) w.heap.size a := Obj1.new w 44 (actC a).toArray
  have hg0 := World.grownBy_alloc w (.cells (actC a).toArray 44) none
  obtain ⟨W, hW⟩ : ∃ V, w.alloc (.cells (actC a).toArray 44) = V := ⟨_, rfl⟩
  obtain ⟨y, hy⟩ : ∃ y, w.heap.size = y := ⟨_, rfl⟩
  rw [hW] at hbx hg0
  rw [hy] at hbx
  have BX := Lib.hid hbx; have N0 := Lib.hid hg0
  have hkk := hbx.k
  obtain ⟨r1, _, r3, r4, r5⟩ := rightA_parts hra
  have hs := hoa.s; have hm := hoa.m
  have hk1 : a.k % 18446744073709551616 = a.k := by omega
  have HK := Lib.hid (fun w' => num1 a.k (by omega) (by omega) w')
  have hn65 : 0 ≤ a.n ∧ a.n ≤ 65535 := by unfold mostN at r4; split at r4 <;> omega
  have hbm : a.b % 18446744073709551616 = a.b := by omega
  have hnm : a.n % 18446744073709551616 = a.n := by omega
  have htm : a.at' % 18446744073709551616 = a.at' := by omega
  have HBB := Lib.hid (fun w' => num1 a.b (by omega) (by omega) w')
  have HNN := Lib.hid (fun w' => num1 a.n (by omega) (by omega) w')
  have HTT := Lib.hid (fun w' => num1 a.at' (by omega) (by omega) w')
  have HN2 := Lib.hid (fun w' => numk a.n (by omega) (by omega) 2 (by decide) (K := 2) rfl w')
  have hmm := numk (a.m : Int) (by omega) (by omega) 8 (by decide) (K := 8) rfl
  rw [Int.toNat_natCast] at hmm
  have HMM := Lib.hid hmm
  have hwn : IntKind.u64.wrap a.n = a.n := by rw [IntKind.wrap_u64]; omega
  have hwt : IntKind.u64.wrap a.at' = a.at' := by rw [IntKind.wrap_u64]; omega
  have hl2 := be_le a.n.toNat 2; have hl8 := be_le a.m 8
  obtain ⟨R, hR⟩ : ∃ R, actB a = R := ⟨_, rfl⟩
  unfold str
  rw [hR]
  have HR := Lib.hid hR
  clear hbx hg0 hmm hR hra hoa r3 r5
  go_enter Try.func38, Try.ntmps38
  go_upto_region 2 with (first | (go_at_call 37; (with_reducible refine (HK.out _).mono ?_); rintro e w1 ⟨rfl, k1⟩; have B1 := Lib.hid (BX.out.nw k1); have N1 := Lib.hid (gb_trans N0.out k1)))
  have hkk := B1.out.k; have hbb := B1.out.b; have hnn := B1.out.n; have htt := B1.out.t
  clear BX N0 HK k1
  rcases (show a.k = 1 ∨ a.k = 2 ∨ a.k = 3 ∨ a.k = 4 ∨ a.k = 5 ∨ a.k = 6 ∨ a.k = 7 ∨ a.k = 8 ∨ a.k = 9 ∨ a.k = 10 by omega) with e | e | e | e | e | e | e | e | e | e
  · have HE := Lib.hid (show R = b8 a.k :: ([b8 a.b, UInt8.ofNat (fillN a.s)] ++ a.s.take (fillN a.s)) from by rw [← HR.out]; unfold actB; rw [e]; rfl)
    clear HR
    have HFI := Lib.hid (fun w' => rfilled_any a.s hs w')
    unfold Ret str at HFI
    have hfl := fillN_le a.s
    have htl : (a.s.take (fillN a.s)).length = fillN a.s := by rw [List.length_take]; omega
    obtain ⟨ft, hft⟩ : ∃ q, a.s.take (fillN a.s) = q := ⟨_, rfl⟩
    obtain ⟨F, hF⟩ : ∃ q, fillN a.s = q := ⟨_, rfl⟩
    rw [hft] at HFI HE htl
    rw [hF] at HE htl hfl
    have HL := Lib.hid (fun w' => num1 (F : Int) (by omega) (by omega) w')
    have hFm : (F : Int) % 18446744073709551616 = (F : Int) := by omega
    have hlen : ((ByteArray.mk ft.toArray).size : Int) = (F : Int) := by show ((ft.toArray.size : Nat) : Int) = _; rw [List.size_toArray, htl]
    have hlen2 : (ByteArray.mk ft.toArray).size = F := by show ft.toArray.size = _; rw [List.size_toArray, htl]
    have HSS : ∀ (ww : World), ActO ww y a → ∀ j u, (a.s.map bv)[j]? = some u → ww.cell? ⟨y, 2 + j, none⟩ = some u := fun ww h => by have := h.s; rwa [p64_of hs] at this
    have HS2 := Lib.hid (HSS _ B1.out)
    clear HSS hft hF
    go_upto_region 5 with (first | ((with_reducible refine (HFI.out _).mono ?_); rintro e' w2 ⟨rfl, k2⟩; have B2 := Lib.hid (B1.out.nw k2); have N2 := Lib.hid (gb_trans N1.out k2)) | ((with_reducible refine wpList_load_agg 33 _ (by with_unfolding_all exact rfl) (by with_unfolding_all exact rfl) (by with_unfolding_all exact rfl) (a.s.map bv) HS2.out _ Try.underlying33 (by with_unfolding_all exact rfl) (i33' hs) ?_)))
    have hbb := B2.out.b
    go_wp2_with (first | (go_at_call 37; (with_reducible refine (HL.out _).mono ?_); rintro e' w4 ⟨rfl, k4⟩) | (go_at_call 37; (with_reducible refine (HBB.out _).mono ?_); rintro e' w3 ⟨rfl, k3⟩))
    go_ret
    have hb8F : b8 (F : Int) = UInt8.ofNat F := by unfold b8; simp
    exact ⟨by rw [HE.out]; show Ending.returned (Value.string _) = _; simp [ByteArray.mk_append_mk, e, hb8F], gb_trans N2.out (gb_trans k3 k4)⟩
  · have HE := Lib.hid (show R = b8 a.k :: ([b8 a.b]) from by rw [← HR.out]; unfold actB; rw [e]; rfl)
    clear HR
    go_wp2_with (first | (go_at_call 37; (with_reducible refine (HBB.out _).mono ?_); rintro e' w2 ⟨rfl, k2⟩))
    go_ret
    exact ⟨by rw [HE.out]; show Ending.returned (Value.string _) = _; simp [ByteArray.mk_append_mk, e], gb_trans N1.out k2⟩
  · have HE := Lib.hid (show R = b8 a.k :: ([]) from by rw [← HR.out]; unfold actB; rw [e]; rfl)
    clear HR
    go_wp2
    go_ret
    exact ⟨by rw [HE.out]; show Ending.returned (Value.string _) = _; simp [ByteArray.mk_append_mk, e], N1.out⟩
  · have HE := Lib.hid (show R = b8 a.k :: ([b8 a.n]) from by rw [← HR.out]; unfold actB; rw [e]; rfl)
    clear HR
    go_wp2_with (first | (go_at_call 37; (with_reducible refine (HNN.out _).mono ?_); rintro e' w2 ⟨rfl, k2⟩))
    go_ret
    exact ⟨by rw [HE.out]; show Ending.returned (Value.string _) = _; simp [ByteArray.mk_append_mk, e], gb_trans N1.out k2⟩
  · have HE := Lib.hid (show R = b8 a.k :: (be 2 a.n.toNat) from by rw [← HR.out]; unfold actB; rw [e]; rfl)
    clear HR
    go_wp2_with (first | (go_at_call 37; (with_reducible refine (HN2.out _).mono ?_); rintro e' w2 ⟨rfl, k2⟩))
    go_ret
    exact ⟨by rw [HE.out]; show Ending.returned (Value.string _) = _; simp [ByteArray.mk_append_mk, e], gb_trans N1.out k2⟩
  · have HE := Lib.hid (show R = b8 a.k :: ([b8 a.n]) from by rw [← HR.out]; unfold actB; rw [e]; rfl)
    clear HR
    go_wp2_with (first | (go_at_call 37; (with_reducible refine (HNN.out _).mono ?_); rintro e' w2 ⟨rfl, k2⟩))
    go_ret
    exact ⟨by rw [HE.out]; show Ending.returned (Value.string _) = _; simp [ByteArray.mk_append_mk, e], gb_trans N1.out k2⟩
  · have HE := Lib.hid (show R = b8 a.k :: ([b8 a.n] ++ be 8 a.m) from by rw [← HR.out]; unfold actB; rw [e]; rfl)
    clear HR
    go_upto_region 14 with fail
    have f1 : ∀ w', Nw w1 w' → w'.cell? ⟨y, 66, none⟩ = some (.int .i64 a.n) := fun _ h => (B1.out.nw h).n
    have f2 : ∀ w', Nw w1 w' → w'.cell? ⟨y, 67, none⟩ = some (.int .i64 a.at') := fun _ h => (B1.out.nw h).t
    have f3 : ∀ w', Nw w1 w' → w'.cell? ⟨y, 68, none⟩ = some (.int .u64 (a.m : Int)) := fun _ h => (B1.out.nw h).m
    refine wp_region_held (S := (fun w' => Nw w1 w')) (by kernel_rfl) ?_
    change wpAnyH _ _ _ _ _ _ _ _ (World.drew w1)
    refine held_seg' (l := [0, 1, 2, 3, 6, 7]) (fuel := 5) rfl (by kernel_rfl) (by kernel_rfl) (by simp only [List.filterMap_cons, List.filterMap_nil, List.getElem?_toArray, List.getElem?_cons_succ, List.getElem?_cons_zero]; rfl) (fun _ _ d _ _ h => by cases d <;> exact h) (gb_drew (Nw.refl w1)) ?_
    iterate 6 (refine wpYield_step rfl (fun K hK => ?_)
               apply Exists.intro
               refine ⟨fun w' hw' => ?_, ?_⟩
               · (go_simp; try with_reducible rfl)
               go_simp
               refine hK _ ?_
               clear hK K)
    refine wpYield_nil ?_
    refine held_eff 4 rfl (by kernel_rfl) rfl (fun K hK => ?_)
    go_simp
    refine (HNN.out _).mono ?_
    rintro e' w2 ⟨rfl, k2⟩
    have K2 := Lib.hid (gb_trans (gb_drew (Nw.refl w1)) k2)
    refine hK _ _ ⟨K2.out, ?_⟩
    clear hK K
    refine held_seg' (l := [5]) (fuel := 3) rfl (by kernel_rfl) (by kernel_rfl) (by simp only [List.filterMap_cons, List.filterMap_nil, List.getElem?_toArray, List.getElem?_cons_succ, List.getElem?_cons_zero]; rfl) (fun _ _ d _ _ h => by cases d <;> exact h) K2.out ?_
    go_simp
    refine wpYield_str_add 9 9 _ _ rfl rfl [b8 7] [b8 a.n] rfl rfl (by simp only [List.length_append, List.length_cons, List.length_nil]; omega) rfl ?_
    refine wpYield_nil ?_
    refine held_eff 8 rfl (by kernel_rfl) rfl (fun K hK => ?_)
    go_simp
    refine (HMM.out _).mono ?_
    rintro e' w3 ⟨rfl, k3⟩
    have K3 := Lib.hid (gb_trans K2.out k3)
    refine hK _ _ ⟨K3.out, ?_⟩
    clear hK K
    refine held_seg' (l := [9, 10]) (fuel := 0) rfl (by kernel_rfl) (by kernel_rfl) (by simp only [List.filterMap_cons, List.filterMap_nil, List.getElem?_toArray, List.getElem?_cons_succ, List.getElem?_cons_zero]; rfl) (fun _ _ d _ _ h => by cases d <;> exact h) K3.out ?_
    go_simp
    refine wpYield_str_add 9 9 _ _ rfl rfl ([b8 7] ++ [b8 a.n]) (be 8 a.m) rfl rfl (by simp only [List.length_append, List.length_cons, List.length_nil]; omega) rfl ?_
    (refine wpYield_step rfl (fun K hK => ?_)
     apply Exists.intro
     refine ⟨fun w' hw' => ?_, ?_⟩
     · (go_simp; try with_reducible rfl)
     go_simp
     refine hK _ ?_
     clear hK K)
    refine wpYield_nil ?_
    refine wpAnyH_done (by kernel_rfl) ?_ _
    go_wp2
    go_ret
    exact ⟨by rw [HE.out]; show Ending.returned (Value.string _) = _; simp [ByteArray.mk_append_mk, e], gb_trans N1.out K3.out⟩
  · have HE := Lib.hid (show R = b8 a.k :: ([b8 a.at', b8 a.n] ++ be 8 a.m) from by rw [← HR.out]; unfold actB; rw [e]; rfl)
    clear HR
    go_upto_region 16 with fail
    have f1 : ∀ w', Nw w1 w' → w'.cell? ⟨y, 66, none⟩ = some (.int .i64 a.n) := fun _ h => (B1.out.nw h).n
    have f2 : ∀ w', Nw w1 w' → w'.cell? ⟨y, 67, none⟩ = some (.int .i64 a.at') := fun _ h => (B1.out.nw h).t
    have f3 : ∀ w', Nw w1 w' → w'.cell? ⟨y, 68, none⟩ = some (.int .u64 (a.m : Int)) := fun _ h => (B1.out.nw h).m
    refine wp_region_held (S := (fun w' => Nw w1 w')) (by kernel_rfl) ?_
    change wpAnyH _ _ _ _ _ _ _ _ (World.drew w1)
    refine held_seg' (l := [0, 1, 2, 3, 6, 7, 8, 11, 12]) (fuel := 7) rfl (by kernel_rfl) (by kernel_rfl) (by simp only [List.filterMap_cons, List.filterMap_nil, List.getElem?_toArray, List.getElem?_cons_succ, List.getElem?_cons_zero]; rfl) (fun _ _ d _ _ h => by cases d <;> exact h) (gb_drew (Nw.refl w1)) ?_
    iterate 9 (refine wpYield_step rfl (fun K hK => ?_)
               apply Exists.intro
               refine ⟨fun w' hw' => ?_, ?_⟩
               · (go_simp; try with_reducible rfl)
               go_simp
               refine hK _ ?_
               clear hK K)
    refine wpYield_nil ?_
    refine held_eff 4 rfl (by kernel_rfl) rfl (fun K hK => ?_)
    go_simp
    refine (HTT.out _).mono ?_
    rintro e' w2 ⟨rfl, k2⟩
    have K2 := Lib.hid (gb_trans (gb_drew (Nw.refl w1)) k2)
    refine hK _ _ ⟨K2.out, ?_⟩
    clear hK K
    refine held_seg' (l := [5]) (fuel := 5) rfl (by kernel_rfl) (by kernel_rfl) (by simp only [List.filterMap_cons, List.filterMap_nil, List.getElem?_toArray, List.getElem?_cons_succ, List.getElem?_cons_zero]; rfl) (fun _ _ d _ _ h => by cases d <;> exact h) K2.out ?_
    go_simp
    refine wpYield_str_add 9 9 _ _ rfl rfl [b8 8] [b8 a.at'] rfl rfl (by simp only [List.length_append, List.length_cons, List.length_nil]; omega) rfl ?_
    refine wpYield_nil ?_
    refine held_eff 9 rfl (by kernel_rfl) rfl (fun K hK => ?_)
    go_simp
    refine (HNN.out _).mono ?_
    rintro e' w3 ⟨rfl, k3⟩
    have K3 := Lib.hid (gb_trans K2.out k3)
    refine hK _ _ ⟨K3.out, ?_⟩
    clear hK K
    refine held_seg' (l := [10]) (fuel := 3) rfl (by kernel_rfl) (by kernel_rfl) (by simp only [List.filterMap_cons, List.filterMap_nil, List.getElem?_toArray, List.getElem?_cons_succ, List.getElem?_cons_zero]; rfl) (fun _ _ d _ _ h => by cases d <;> exact h) K3.out ?_
    go_simp
    refine wpYield_str_add 9 9 _ _ rfl rfl ([b8 8] ++ [b8 a.at']) [b8 a.n] rfl rfl (by simp only [List.length_append, List.length_cons, List.length_nil]; omega) rfl ?_
    refine wpYield_nil ?_
    refine held_eff 13 rfl (by kernel_rfl) rfl (fun K hK => ?_)
    go_simp
    refine (HMM.out _).mono ?_
    rintro e' w4 ⟨rfl, k4⟩
    have K4 := Lib.hid (gb_trans K3.out k4)
    refine hK _ _ ⟨K4.out, ?_⟩
    clear hK K
    refine held_seg' (l := [14, 15]) (fuel := 0) rfl (by kernel_rfl) (by kernel_rfl) (by simp only [List.filterMap_cons, List.filterMap_nil, List.getElem?_toArray, List.getElem?_cons_succ, List.getElem?_cons_zero]; rfl) (fun _ _ d _ _ h => by cases d <;> exact h) K4.out ?_
    go_simp
    refine wpYield_str_add 9 9 _ _ rfl rfl ([b8 8] ++ [b8 a.at'] ++ [b8 a.n]) (be 8 a.m) rfl rfl (by simp only [List.length_append, List.length_cons, List.length_nil]; omega) rfl ?_
    (refine wpYield_step rfl (fun K hK => ?_)
     apply Exists.intro
     refine ⟨fun w' hw' => ?_, ?_⟩
     · (go_simp; try with_reducible rfl)
     go_simp
     refine hK _ ?_
     clear hK K)
    refine wpYield_nil ?_
    refine wpAnyH_done (by kernel_rfl) ?_ _
    go_wp2
    go_ret
    exact ⟨by rw [HE.out]; show Ending.returned (Value.string _) = _; simp [ByteArray.mk_append_mk, e], gb_trans N1.out K4.out⟩
  · have HE := Lib.hid (show R = b8 a.k :: ([b8 a.n, b8 a.at']) from by rw [← HR.out]; unfold actB; rw [e]; rfl)
    clear HR
    go_upto_region 18 with fail
    have f1 : ∀ w', Nw w1 w' → w'.cell? ⟨y, 66, none⟩ = some (.int .i64 a.n) := fun _ h => (B1.out.nw h).n
    have f2 : ∀ w', Nw w1 w' → w'.cell? ⟨y, 67, none⟩ = some (.int .i64 a.at') := fun _ h => (B1.out.nw h).t
    have f3 : ∀ w', Nw w1 w' → w'.cell? ⟨y, 68, none⟩ = some (.int .u64 (a.m : Int)) := fun _ h => (B1.out.nw h).m
    refine wp_region_held (S := (fun w' => Nw w1 w')) (by kernel_rfl) ?_
    change wpAnyH _ _ _ _ _ _ _ _ (World.drew w1)
    refine held_seg' (l := [0, 1, 2, 3, 6, 7, 8]) (fuel := 5) rfl (by kernel_rfl) (by kernel_rfl) (by simp only [List.filterMap_cons, List.filterMap_nil, List.getElem?_toArray, List.getElem?_cons_succ, List.getElem?_cons_zero]; rfl) (fun _ _ d _ _ h => by cases d <;> exact h) (gb_drew (Nw.refl w1)) ?_
    iterate 7 (refine wpYield_step rfl (fun K hK => ?_)
               apply Exists.intro
               refine ⟨fun w' hw' => ?_, ?_⟩
               · (go_simp; try with_reducible rfl)
               go_simp
               refine hK _ ?_
               clear hK K)
    refine wpYield_nil ?_
    refine held_eff 4 rfl (by kernel_rfl) rfl (fun K hK => ?_)
    go_simp
    refine (HNN.out _).mono ?_
    rintro e' w2 ⟨rfl, k2⟩
    have K2 := Lib.hid (gb_trans (gb_drew (Nw.refl w1)) k2)
    refine hK _ _ ⟨K2.out, ?_⟩
    clear hK K
    refine held_seg' (l := [5]) (fuel := 3) rfl (by kernel_rfl) (by kernel_rfl) (by simp only [List.filterMap_cons, List.filterMap_nil, List.getElem?_toArray, List.getElem?_cons_succ, List.getElem?_cons_zero]; rfl) (fun _ _ d _ _ h => by cases d <;> exact h) K2.out ?_
    go_simp
    refine wpYield_str_add 9 9 _ _ rfl rfl [b8 9] [b8 a.n] rfl rfl (by simp only [List.length_append, List.length_cons, List.length_nil]; omega) rfl ?_
    refine wpYield_nil ?_
    refine held_eff 9 rfl (by kernel_rfl) rfl (fun K hK => ?_)
    go_simp
    refine (HTT.out _).mono ?_
    rintro e' w3 ⟨rfl, k3⟩
    have K3 := Lib.hid (gb_trans K2.out k3)
    refine hK _ _ ⟨K3.out, ?_⟩
    clear hK K
    refine held_seg' (l := [10, 11]) (fuel := 0) rfl (by kernel_rfl) (by kernel_rfl) (by simp only [List.filterMap_cons, List.filterMap_nil, List.getElem?_toArray, List.getElem?_cons_succ, List.getElem?_cons_zero]; rfl) (fun _ _ d _ _ h => by cases d <;> exact h) K3.out ?_
    go_simp
    refine wpYield_str_add 9 9 _ _ rfl rfl ([b8 9] ++ [b8 a.n]) [b8 a.at'] rfl rfl (by simp only [List.length_append, List.length_cons, List.length_nil]; omega) rfl ?_
    (refine wpYield_step rfl (fun K hK => ?_)
     apply Exists.intro
     refine ⟨fun w' hw' => ?_, ?_⟩
     · (go_simp; try with_reducible rfl)
     go_simp
     refine hK _ ?_
     clear hK K)
    refine wpYield_nil ?_
    refine wpAnyH_done (by kernel_rfl) ?_ _
    go_wp2
    go_ret
    exact ⟨by rw [HE.out]; show Ending.returned (Value.string _) = _; simp [ByteArray.mk_append_mk, e], gb_trans N1.out K3.out⟩
  · have HE := Lib.hid (show R = b8 a.k :: ([]) from by rw [← HR.out]; unfold actB; rw [e]; rfl)
    clear HR
    go_wp2
    go_ret
    exact ⟨by rw [HE.out]; show Ending.returned (Value.string _) = _; simp [ByteArray.mk_append_mk, e], N1.out⟩
end Go.Proofs.Ytmcgfnfhpcddlaa

