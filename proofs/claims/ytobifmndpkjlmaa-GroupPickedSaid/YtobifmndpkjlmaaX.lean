/- The statements' on: a group on some disks. -/
import Derived.Test.YtobifmndpkjlmaaM
import Derived.Test.YtobifmndpkjlmaaC
namespace Go.Proofs.Ytobifmndpkjlmaa
open Go.RowKit Go.BW

def onE (ds : List Int) : List Et := ds.map fun d => ⟨d, 0⟩
def OnPost (ds : List Int) (w : World) (e : Ending) (w' : World) : Prop :=
  ∃ A n c, e = .returned (.agg #[.int .i64 0, .int .i64 0, .slice A n c]) ∧ Own w' w.heap.size 39 2 A n c (fl ec (onE ds)) ∧ n = ds.length ∧ Nw w w'
set_option maxHeartbeats 4000000 in
theorem on_any {w : World} {B n c : Nat} {A : Option Addr} {ds : List Int} (hr : Rd w B 1 A n (ds.map iv)) (hB : B ≤ w.heap.size) (hn : n ≤ 1000000) : Calls Try.prog 25 #[.slice A n c] w (OnPost ds w) := by
  have hlen : ds.length = n := by have := hr.1; simpa using this
  have HR := Lib.hid hr; have HB := Lib.hid hB; have HL := Lib.hid hlen
  have hb1 := obj_fst w 37 #[.int .i64 0, .int .i64 0, .slice none 0 0] (.cells #[.int .i64 0, .int .i64 0, .slice none 0 0] 37)
  have hb2 := obj_snd w (.cells #[.int .i64 0, .int .i64 0, .slice none 0 0] 37) 37 #[.int .i64 0, .int .i64 0, .slice none 0 0]
  have hn2 := gb_trans (World.grownBy_alloc w (.cells #[.int .i64 0, .int .i64 0, .slice none 0 0] 37) none) (World.grownBy_alloc _ (.cells #[.int .i64 0, .int .i64 0, .slice none 0 0] 37) none)
  clear hr hB hlen
  go_enter Try.func25, Try.ntmps25
  go_wp2_with fail
  obtain ⟨W, hW⟩ : ∃ W, (w.alloc (.cells #[.int .i64 0, .int .i64 0, .slice none 0 0] 37)).alloc (.cells #[.int .i64 0, .int .i64 0, .slice none 0 0] 37) = W := ⟨_, rfl⟩
  rw [hW] at hb1 hb2 hn2 ⊢
  obtain ⟨y, hy⟩ : ∃ y, w.heap.size = y := ⟨_, rfl⟩
  rw [hy] at hb1 hb2 ⊢
  have HY := Lib.hid hy
  have HB1 := Lib.hid hb1; have HB2 := Lib.hid hb2; have N2 := Lib.hid hn2
  clear hW hy hb1 hb2 hn2
  go_loopw [4] (fun v wr => ∃ (j : Nat) (A3 : Option Addr) (c3 : Nat), v = .int .i64 j ∧ j ≤ n ∧ Obj1 wr y 37 #[.int .i64 0, .int .i64 0, .slice none 0 0] ∧ Obj1 wr (y + 1) 37 #[.int .i64 0, .int .i64 0, .slice A3 j c3] ∧ Hid (Own wr y 39 2 A3 j c3 (fl ec (onE (ds.take j)))) ∧ Nw w wr) (fun v _ => n - (intOf v).toNat)
  case atStart => exact ⟨0, none, 0, rfl, Nat.zero_le _, HB1.out, HB2.out, Lib.hid Own.nil, N2.out⟩
  case round =>
    obtain ⟨j, A3, c3, rfl, hj, hb1, hb2, how, hnw⟩ := hrel
    have HBa := Lib.hid hb1; have HBb := Lib.hid hb2
    have hyl := hb2.lt
    by_cases hlt : j < n
    · have hltz : (j : Int) < (n : Int) := by omega
      have HC2 := Lib.hid (show ∀ w', Nw w w' → ∃ b off, A = some ⟨b, off, none⟩ ∧ w'.cell? ⟨b, off + j, none⟩ = some (.int .i64 (ds.getD j 0)) from fun w' hw => atD (HR.out.nw hw HB.out) hlt)
      obtain ⟨b, off, hA, _⟩ := HC2.out wr hnw
      subst hA
      have HC3 := Lib.hid (show ∀ w', Nw w w' → w'.cell? ⟨b, off + j, none⟩ = some (.int .i64 (ds.getD j 0)) from fun w' hw => by
        obtain ⟨b2, off2, e, h2⟩ := HC2.out w' hw
        injection e with e; injection e with e1 e2; subst e1; subst e2; exact h2)
      clear HC2
      have HT := Lib.hid (show onE (ds.take (j + 1)) = onE (ds.take j) ++ [⟨ds.getD j 0, 0⟩] by
        unfold onE; rw [List.take_succ_eq_append_getElem (by rw [HL.out]; exact hlt), List.map_append, getD_at]; rfl)
      obtain ⟨u, hu⟩ : ∃ u, ds.getD j 0 = u := ⟨_, rfl⟩
      rw [hu] at HC3 HT
      clear hu hb1 hb2
      go_wp2_with fail
      refine wp_region_U [10] (fun w' => w'.cell? ⟨y + 1, 2, none⟩ = some (.slice A3 j c3) ∧ w'.cell? ⟨b, off + j, none⟩ = some (.int .i64 u)) (by kernel_rfl) ?_
      change wpU _ _ _ _ _ _ _ _ _ (World.drew wr)
      refine U_segL (r := [0, 1, 2, 3, 4, 5, 6]) (fuel := 4) rfl (by kernel_rfl) (by kernel_rfl) (by simp only [List.filterMap_cons, List.filterMap_nil, List.getElem?_toArray, List.getElem?_cons_succ, List.getElem?_cons_zero]; rfl) (fun _ _ d _ _ h => by cases d <;> exact h) (And.intro (HBb.out.cell 2) (HC3.out _ (gb_drew hnw))) ?_
      iterate 7 (refine wpYield_step rfl (fun K hK => ?_)
                 apply Exists.intro
                 refine ⟨fun w' hw' => ?_, ?_⟩
                 · (go_simp; try with_reducible rfl)
                 go_simp
                 refine hK _ ?_
                 clear hK K)
      refine wpYield_nil ?_
      refine U_eff 7 rfl (by kernel_rfl) rfl (fun K hK => ?_)
      go_simp
      refine hK _ _ ⟨until_of (And.intro (cell_alloc (HBb.out.cell 2)) (HC3.out _ (gb_trans hnw (gb_drew_alloc wr _)))), ?_⟩
      clear hK K
      refine U_eff 8 rfl (by kernel_rfl) rfl (fun K hK => ?_)
      refine wp_app_own T35 _ _ rfl rfl rfl (World.ownsRow.alloc (how.out.drew) _) (rd_litN [.int .i64 u, .int .i64 0] 39 2 rfl) (by intro v hv; simp at hv; rcases hv with rfl | rfl <;> rfl) (by unfold maxLen; omega) (Nat.le_trans (by omega) (gb_drew_alloc wr _).size) ?_
      intro A4 c4 w5 h2 h3 h4
      have K1 := Lib.hid (show wr.grownBy w5 (Value.slice A3 j c3).ownBlock from gb_of_drew (gb_trans (World.grownBy_alloc _ _ _) h3))
      have NW5 := Lib.hid (show Nw w w5 from nw_of_gb hnw K1.out (fun z hz => by rw [HY.out]; exact how.out.blk z hz))
      have BX5 := Lib.hid (show Obj1 w5 (y + 1) 37 #[.int .i64 0, .int .i64 0, .slice A3 j c3] from HBb.out.eq (K1.out.block _ HBb.out.lt fun e => by
        obtain ⟨cur, hc⟩ := how.out.rowObj _ e.symm
        exact hc.ne HBb.out (by decide) rfl))
      have BY5 := Lib.hid (show Obj1 w5 y 37 #[.int .i64 0, .int .i64 0, .slice none 0 0] from HBa.out.eq (K1.out.block _ HBa.out.lt fun e => by
        obtain ⟨cur, hc⟩ := how.out.rowObj _ e.symm
        exact hc.ne HBa.out (by decide) rfl))
      have H2 := Lib.hid h2
      clear h2 h3 h4
      refine hK _ _ ⟨until_of (And.intro (BX5.out.cell 2) (HC3.out _ NW5.out)), ?_⟩
      clear hK K
      refine U_segL (r := [9]) (fuel := 1) rfl (by kernel_rfl) (by kernel_rfl) (by simp only [List.filterMap_cons, List.filterMap_nil, List.getElem?_toArray, List.getElem?_cons_succ, List.getElem?_cons_zero]; rfl) (fun _ _ d _ _ h => by cases d <;> exact h) (And.intro (BX5.out.cell 2) (HC3.out _ NW5.out)) ?_
      (refine wpYield_step rfl (fun K hK => ?_)
       apply Exists.intro
       refine ⟨fun w' hw' => ?_, ?_⟩
       · (go_simp; try with_reducible rfl)
       go_simp
       refine hK _ ?_
       clear hK K)
      refine wpYield_nil ?_
      refine U_eff 10 rfl (by kernel_rfl) rfl (fun K hK => ?_)
      have e0 := BX5.out.cell 2; have f0 := BX5.out.frozen 2
      go_simp
      refine hK _ _ ⟨until_past (by kernel_rfl), ?_⟩
      clear hK K
      refine U_done (by kernel_rfl) ?_ _
      have BX6 := BX5.out.set 2 (.slice A4 (j + 1) c4)
      have G6 : w5.grownBy (w5.setCell ⟨y + 1, 2, none⟩ (.slice A4 (j + 1) c4)) (some (y + 1)) := gb_set (gb_nw (Nw.refl w5)) (.inl rfl) _
      have O6 := H2.out.kept G6 (fun r hr e => by
        injection hr with hr; subst hr
        obtain ⟨cur, hc⟩ := H2.out.rowObj _ e
        exact hc.ne BX5.out (by decide) rfl)
      have BY6 := BY5.out.eq (G6.block y BY5.out.lt (by intro e; injection e with e; omega))
      have N6 := nw_of_gb NW5.out G6 (fun z hz => by injection hz with hz; subst hz; have := HY.out; omega)
      obtain ⟨w6, hw6⟩ : ∃ w6, w5.setCell ⟨y + 1, 2, none⟩ (.slice A4 (j + 1) c4) = w6 := ⟨_, rfl⟩
      rw [hw6] at BX6 BY6 O6 N6 ⊢
      clear hw6 G6 e0 f0
      go_wp2_with fail
      go_roundw
      case rel => exact ⟨j + 1, A4, c4, by go_num, by omega, BY6, BX6, Lib.hid (by rw [HT.out, fl_app, fl_one]; exact O6), N6⟩
      case measure => simp only [intOf]; omega
    · have hjn : j = n := by omega
      have HF := Lib.hid (show onE (ds.take j) = onE ds by rw [List.take_of_length_le (by rw [HL.out]; omega)])
      have HJ := Lib.hid hjn
      clear hb1 hb2 hjn
      go_wp2_with (first
        | ((with_reducible refine wpList_store_obj 37 _ _ (by with_unfolding_all exact rfl) (by with_unfolding_all exact rfl) [.int .i64 0, .int .i64 0, .slice A3 j c3] (by with_unfolding_all exact rfl) (by with_unfolding_all exact rfl) (by with_unfolding_all exact rfl) (by kernel_rfl) (gc_one1 _ _ _ _ _) HBa.out (by with_unfolding_all exact rfl) ?_); intro w7 s1 s2)
        | ((with_reducible refine wpList_load_obj 37 _ (by with_unfolding_all exact rfl) (by with_unfolding_all exact rfl) (by with_unfolding_all exact rfl) HBb.out _ Try.underlying37 (by with_unfolding_all exact rfl) (by kernel_rfl) ?_)))
      refine bodyPost_ret (res_cell rfl _ _ _ 37 _ _ rfl s1 Try.underlying37 rfl (by kernel_rfl)) rfl ?_
      refine ⟨A3, j, c3, rfl, ?_, by rw [HL.out]; exact HJ.out, nw_of_gb hnw s2 (fun z hz => by injection hz with hz; subst hz; rw [HY.out]; exact Nat.le_refl _)⟩
      rw [HY.out, ← HF.out]
      exact how.out.kept s2 (fun r hr e => by
        injection hr with hr; subst hr
        obtain ⟨cur, hc⟩ := how.out.rowObj _ e
        exact hc.ne HBa.out (by decide) rfl)
end Go.Proofs.Ytobifmndpkjlmaa

