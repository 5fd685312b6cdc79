/- The library's insertion sort by byRoom's comparison. -/
import Derived.Test.YtobifmndpkjlmaaO
namespace Go.Proofs.Ytobifmndpkjlmaa
open Go.RowKit Go.BW

/-- where the comparison finds the rooms, from a row of disks at g on -/
structure Cmp (w : World) (g y : Nat) (A : Option Addr) (n c : Nat) (rs : List Int) : Prop where
  cell : w.cell? ⟨y, 0, none⟩ = some (.slice A n c)
  ne : y ≠ g
  rd : Rd w g 1 A n (rs.map iv)
  ns : n ≤ 9223372036854775807
  len : rs.length = n
theorem Cmp.gb {w w' : World} {g y n c : Nat} {A : Option Addr} {rs : List Int} (h : Cmp w g y A n c rs) (k : w.grownBy w' (some g)) (hg : g < w.heap.size) : Cmp w' g y A n c rs :=
  ⟨(World.cell?_of_block (k.block y (World.block_lt_of_cell? w _ h.cell) (by intro e; injection e with e; exact h.ne e))).trans h.cell, h.ne, h.rd.gb k (Nat.le_of_lt hg) (by intro x e; injection e with e; omega), h.ns, h.len⟩
def SortPost (g base n c : Nat) (rs : List Int) (L : List Nat) (a b : Nat) (w : World) (e : Ending) (w' : World) : Prop :=
  e = .returned (.tuple #[]) ∧ ∃ M : List Nat, M.Perm ((L.take b).drop a) ∧ M.Pairwise (bef rs) ∧ Own w' base 3 1 (some ⟨g, 0, none⟩) n c ((L.take a ++ M ++ L.drop b).map nv) ∧ w.grownBy w' (some g)
theorem cmpf_neg {x y : Int} : decide (cmpf x y < 0) = decide (x < y) := by
  unfold cmpf
  split
  · next h => simp [h]
  · next h => split <;> simp [h]
set_option maxHeartbeats 8000000 in
theorem insertion_any {w : World} {base g y n c N cR a b : Nat} {AR : Option Addr} {rs : List Int} {L : List Nat} (ho : Own w base 3 1 (some ⟨g, 0, none⟩) n c (L.map nv)) (hc : Cmp w g y AR N cR rs) (hab : a ≤ b) (hb : b ≤ n) (hn : n ≤ 1000000)
    (hL : ∀ x ∈ L, x < N) (hup : ((L.take b).drop a).Pairwise (· < ·)) :
    Calls Try.prog 50 #[.slice (some ⟨g, 0, none⟩) n c, .int .i64 a, .int .i64 b, .func (.func 40) #[] #[.pointer (some ⟨y, 0, none⟩)]] w (SortPost g base n c rs L a b w) := by
  have hlen : L.length = n := by have := ho.len; simpa using this
  have hglt : g < w.heap.size := by obtain ⟨cur, h⟩ := ho.obj; exact h.lt
  have HO := Lib.hid ho; have HC := Lib.hid hc; have HL := Lib.hid hL; have HU := Lib.hid hup; have HN := Lib.hid hlen; have HG := Lib.hid hglt
  clear ho hc hL hup hlen
  by_cases hab' : a = b
  · subst hab'
    go_enter Try.func50, Try.ntmps50
    go_wp2_with fail
    go_loopw [8] (fun v wr => v = .int .i64 ((a : Int) + 1) ∧ wr = w) (fun _ _ => 0)
    case atStart => exact ⟨by go_num, rfl⟩
    case round =>
      obtain ⟨rfl, rfl⟩ := hrel
      have hn' : ¬ (a : Int) + 1 < (a : Int) := by omega
      go_wp2
      go_end0
      refine ⟨rfl, [], ?_, List.Pairwise.nil, ?_, gb_nw (Nw.refl _)⟩
      · rw [List.drop_of_length_le (by rw [List.length_take]; omega)]
      · rw [List.append_nil, List.take_append_drop]; exact HO.out
  · have hlt : a < b := by omega
    go_enter Try.func50, Try.ntmps50
    go_wp2_with fail
    go_loopw [8] (fun v wr => ∃ (i : Nat) (M : List Nat), v = .int .i64 i ∧ a < i ∧ i ≤ b ∧ Hid (M.Perm ((L.take i).drop a)) ∧ Hid (M.Pairwise (bef rs)) ∧ Hid (Own wr base 3 1 (some ⟨g, 0, none⟩) n c ((L.take a ++ M ++ L.drop i).map nv)) ∧ Hid (w.grownBy wr (some g))) (fun v _ => b - (intOf v).toNat)
    case atStart =>
      refine ⟨a + 1, (L.take (a + 1)).drop a, by go_num, by omega, by omega, Lib.hid (List.Perm.refl _), Lib.hid ?_, Lib.hid ?_, Lib.hid (gb_nw (Nw.refl _))⟩
      · rw [List.take_succ_eq_append_getElem (by rw [HN.out]; omega), List.drop_append_of_le_length (by simp; rw [HN.out]; omega), List.drop_of_length_le (by rw [List.length_take]; omega), List.nil_append]
        exact List.pairwise_singleton _ _
      · have e : L.take a ++ (L.take (a + 1)).drop a ++ L.drop (a + 1) = L := by
          have h1 : L.take a = (L.take (a + 1)).take a := by rw [List.take_take]; congr 1; omega
          rw [h1, List.take_append_drop, List.take_append_drop]
        rw [e]; exact HO.out
    case round =>
      obtain ⟨i, M, rfl, hai, hib, hpm, hpw, ho, hgb⟩ := hrel
      obtain ⟨wa, rfl⟩ : ∃ q, q = wr := ⟨_, rfl⟩
      by_cases hi : i < b
      · have hiz : (i : Int) < (b : Int) := by omega
        have hin : i < L.length := by rw [HN.out]; omega
        obtain ⟨x, hx⟩ : ∃ x, L[i] = x := ⟨_, rfl⟩
        have HD := Lib.hid (show L.drop i = x :: L.drop (i + 1) by rw [List.drop_eq_getElem_cons hin, hx])
        have HT := Lib.hid (show (L.take (i + 1)).drop a = (L.take i).drop a ++ [x] by
          rw [List.take_succ_eq_append_getElem hin, List.drop_append_of_le_length (by simp; omega), hx])
        have HML := Lib.hid (show M.length = i - a by rw [hpm.out.length_eq]; simp; omega)
        have HLO := Lib.hid (show ∀ z ∈ M, z < x from fun z hz => by
          have h1 := (hpm.out.mem_iff).1 hz
          have h2 := HU.out
          have h3 : (L.take b).drop a = ((L.take i).drop a ++ [x]) ++ (L.take b).drop (i + 1) := by
            rw [← HT.out]
            have h4 : L.take (i + 1) = (L.take b).take (i + 1) := by rw [List.take_take]; congr 1; omega
            rw [h4]
            have h5 : (L.take b).drop a = ((L.take b).take (i + 1) ++ (L.take b).drop (i + 1)).drop a := by rw [List.take_append_drop]
            rw [h5, List.drop_append_of_le_length (by simp; omega)]
          rw [h3, List.pairwise_append, List.pairwise_append] at h2
          exact h2.1.2.2 z h1 x (by simp))
        have HXN := Lib.hid (HL.out x (by rw [← hx]; exact List.getElem_mem _))
        have HMN := Lib.hid (show ∀ z ∈ M, z < N from fun z hz => HL.out z (List.mem_of_mem_take (List.mem_of_mem_drop ((hpm.out.mem_iff).1 hz))))
        clear hx
        go_wp2_with fail
        go_loopw [9] (fun v wr => ∃ (j : Nat) (M1 M2 : List Nat), v = .int .i64 j ∧ a ≤ j ∧ j ≤ i ∧ Hid (j = a + M1.length) ∧ Hid (M = M1 ++ M2) ∧ Hid (∀ z ∈ M2, bef rs x z) ∧ Hid (Own wr base 3 1 (some ⟨g, 0, none⟩) n c (((L.take a ++ M1) ++ x :: (M2 ++ L.drop (i + 1))).map nv)) ∧ Hid (w.grownBy wr (some g))) (fun v _ => (intOf v).toNat)
        case atStart => exact ⟨i, M, [], rfl, by omega, Nat.le_refl _, Lib.hid (by rw [HML.out]; omega), Lib.hid (by simp), Lib.hid (by simp), Lib.hid (by have := ho.out; rw [HD.out] at this; simpa using this), hgb⟩
        case round =>
          obtain ⟨j, M1, M2, rfl, haj, hji, hjl, hMM, hhi, ho2, hgb2⟩ := hrel
          have HCW := Lib.hid (HC.out.gb hgb2.out HG.out)
          have HON := Lib.hid (show ((L.take a ++ M1) ++ x :: (M2 ++ L.drop (i + 1)))[j]? = some x from by
            rw [List.getElem?_append_right (by simp; have := hjl.out; omega)]
            have : j - (L.take a ++ M1).length = 0 := by simp; have := hjl.out; omega
            rw [this]; rfl)
          have hjn : j < n := by omega
          have cj : wr.cell? ⟨g, j, none⟩ = some (.int .i64 x) := by
            obtain ⟨u, h1, h2, _⟩ := ho2.out.cellAt hjn
            rw [List.getElem?_map, HON.out] at h1
            injection h1 with h1; subst h1; exact h2
          rcases List.eq_nil_or_concat M1 with hM1 | ⟨M3, z, hM1⟩
          · have d0 : decide (a < j) = false := by
              have := hjl.out
              rw [hM1] at this
              exact decide_eq_false (by simp at this; omega)
            have HS := Lib.hid (ins_stop' (M1 := M1) (M2 := M2) (x := x) (by rw [← hMM.out]; exact hpw.out) hhi.out (by rw [← hMM.out]; exact HLO.out) (.inl hM1))
            clear hM1
            go_wp2_with fail
            go_quiet (fail)
            go_wp2
            go_roundw
            case rel =>
              refine ⟨i + 1, M1 ++ x :: M2, by go_num, by omega, by omega, Lib.hid ?_, HS, Lib.hid ?_, Lib.hid (gb_drewN hgb2.out _)⟩
              · rw [HT.out]
                refine List.Perm.trans ?_ (List.perm_append_singleton _ _).symm
                exact List.perm_middle.trans ((by rw [← hMM.out]; exact hpm.out : (M1 ++ M2).Perm _).cons x)
              · have := ho2.out.drewN nq
                simpa using this
            case measure => simp only [intOf]; omega
          · rw [List.concat_eq_append] at hM1
            obtain ⟨jp, hjp⟩ : ∃ jp, jp = a + M3.length := ⟨_, rfl⟩
            have hj1 : j = jp + 1 := by
              have := hjl.out
              rw [hM1] at this
              simp at this; omega
            have haj' : a ≤ jp := by omega
            have HPL := Lib.hid (show (L.take a ++ M3).length = jp from by simp; omega)
            have HLS := Lib.hid (show (L.take a ++ M1) ++ x :: (M2 ++ L.drop (i + 1)) = (L.take a ++ M3) ++ z :: x :: (M2 ++ L.drop (i + 1)) from by rw [hM1]; simp)
            have cjp : wr.cell? ⟨g, jp, none⟩ = some (.int .i64 z) := by
              obtain ⟨u, h1, h2, _⟩ := ho2.out.cellAt (show jp < n by omega)
              rw [List.getElem?_map, HLS.out, List.getElem?_append_right (by rw [HPL.out]; omega), HPL.out, Nat.sub_self] at h1
              injection h1 with h1; subst h1; exact h2
            have d0 : decide (a < j) = true := decide_eq_true (by omega)
            have e1 : IntKind.i64.wrap ((j : Int) - 1) = (jp : Int) := by rw [IntKind.wrap_i64]; omega
            have hzN : z < N := HMN.out z (by rw [hMM.out, hM1]; simp)
            have HB := Lib.hid (show ∀ m, Calls Try.prog 40 #[.int .i64 x, .int .i64 z, .pointer (some ⟨y, 0, none⟩)] (wr.drewN m) fun e w' => e = .returned (.int .i64 (cmpf (rs.getD z 0) (rs.getD x 0))) ∧ ∃ k, w' = (wr.drewN m).drewN k from fun m =>
              byroom_any (w := wr.drewN m) (HCW.out.rd.drewN m) HCW.out.ns HCW.out.cell x z HXN.out hzN)
            have hneg := cmpf_neg (x := rs.getD z 0) (y := rs.getD x 0)
            obtain ⟨r, hr⟩ : ∃ r, cmpf (rs.getD z 0) (rs.getD x 0) = r := ⟨_, rfl⟩
            rw [hr] at HB hneg
            have HM1 := Lib.hid hM1
            have hjpn : jp < n := by omega
            have hjz : (j : Int) < (n : Int) := by omega
            have hjpz : (jp : Int) < (n : Int) := by omega
            have HJ := Lib.hid hj1
            have HJP := Lib.hid hjp
            clear hr hM1 hj1 hjp
            by_cases hlt2 : rs.getD z 0 < rs.getD x 0
            · rw [decide_eq_true hlt2] at hneg
              have HLT := Lib.hid hlt2
              clear hlt2
              go_wp2_with fail
              go_quiet (exact Calls.quiet_of (HB.out _))
              go_wp2
              have OJ := Lib.hid (ho2.out.drewN nq)
              obtain ⟨wb, hwb⟩ : ∃ wb, wr.drewN nq = wb := ⟨_, rfl⟩
              have HGB := Lib.hid (gb_drewN hgb2.out nq)
              rw [hwb] at OJ HGB ⊢
              have S3 := Lib.hid (show wb.cell? ⟨g, j, none⟩ = some (.int .i64 x) ∧ wb.cell? ⟨g, jp, none⟩ = some (.int .i64 z) from by rw [← hwb]; exact ⟨cj, cjp⟩)
              clear hwb cj cjp
              refine wp_region_U [15] (fun w' => w'.cell? ⟨g, j, none⟩ = some (.int .i64 x) ∧ w'.cell? ⟨g, jp, none⟩ = some (.int .i64 z)) (by kernel_rfl) ?_
              change wpU _ _ _ _ _ _ _ _ _ (World.drew wb)
              refine U_segP (r := [0, 1, 2, 3, 4, 5, 6, 7, 8]) (fuel := 9) rfl (by kernel_rfl) (by kernel_rfl) (by simp only [List.filterMap_cons, List.filterMap_nil, List.getElem?_toArray, List.getElem?_cons_succ, List.getElem?_cons_zero]; rfl) (fun _ _ d _ _ h => by cases d <;> exact h) (until_of S3.out) ?_
              iterate 9 (refine wpYield_step rfl (fun K hK => ?_)
                         apply Exists.intro
                         refine ⟨fun w' hw' => ?_, ?_⟩
                         · (go_simp; try with_reducible rfl)
                         go_simp
                         refine hK _ ?_
                         clear hK K)
              refine wpYield_nil ?_
              refine U_segL (r := [9]) (fuel := 8) rfl (by kernel_rfl) (by kernel_rfl) (by simp only [List.filterMap_cons, List.filterMap_nil, List.getElem?_toArray, List.getElem?_cons_succ, List.getElem?_cons_zero]; rfl) (fun _ _ d _ _ h => by cases d <;> exact h) S3.out ?_
              (refine wpYield_step rfl (fun K hK => ?_)
               apply Exists.intro
               refine ⟨fun w' hw' => ?_, ?_⟩
               · (go_simp; try with_reducible rfl)
               go_simp
               refine hK _ ?_
               clear hK K)
              refine wpYield_nil ?_
              refine U_segP (r := [10, 11, 12]) (fuel := 5) rfl (by kernel_rfl) (by kernel_rfl) (by simp only [List.filterMap_cons, List.filterMap_nil, List.getElem?_toArray, List.getElem?_cons_succ, List.getElem?_cons_zero]; rfl) (fun _ _ d _ _ h => by cases d <;> exact h) (until_of S3.out) ?_
              iterate 3 (refine wpYield_step rfl (fun K hK => ?_)
                         apply Exists.intro
                         refine ⟨fun w' hw' => ?_, ?_⟩
                         · (go_simp; try with_reducible rfl)
                         go_simp
                         refine hK _ ?_
                         clear hK K)
              refine wpYield_nil ?_
              refine U_segL (r := [13]) (fuel := 4) rfl (by kernel_rfl) (by kernel_rfl) (by simp only [List.filterMap_cons, List.filterMap_nil, List.getElem?_toArray, List.getElem?_cons_succ, List.getElem?_cons_zero]; rfl) (fun _ _ d _ _ h => by cases d <;> exact h) S3.out ?_
              (refine wpYield_step rfl (fun K hK => ?_)
               apply Exists.intro
               refine ⟨fun w' hw' => ?_, ?_⟩
               · (go_simp; try with_reducible rfl)
               go_simp
               refine hK _ ?_
               clear hK K)
              refine wpYield_nil ?_
              refine U_segP (r := [14]) (fuel := 3) rfl (by kernel_rfl) (by kernel_rfl) (by simp only [List.filterMap_cons, List.filterMap_nil, List.getElem?_toArray, List.getElem?_cons_succ, List.getElem?_cons_zero]; rfl) (fun _ _ d _ _ h => by cases d <;> exact h) (until_of S3.out) ?_
              (refine wpYield_step rfl (fun K hK => ?_)
               apply Exists.intro
               refine ⟨fun w' hw' => ?_, ?_⟩
               · (go_simp; try with_reducible rfl)
               go_simp
               refine hK _ ?_
               clear hK K)
              refine wpYield_nil ?_
              refine U_eff 15 rfl (by kernel_rfl) rfl (fun K hK => ?_)
              obtain ⟨u0, _, c0, f0⟩ := (OJ.out.drew).cellAt hjn
              go_simp
              refine hK _ _ ⟨until_past (by kernel_rfl), ?_⟩
              clear hK K
              obtain ⟨o4, g4⟩ := OJ.out.set j (.int .i64 (z : Int))
              obtain ⟨wc, hwc⟩ : ∃ wc, wb.setCell ⟨g, j, none⟩ (.int .i64 (z : Int)) = wc := ⟨_, rfl⟩
              rw [hwc] at o4 g4 ⊢
              have O4 := Lib.hid o4; have G4 := Lib.hid (gb_trans HGB.out g4)
              clear hwc f0 c0 o4 g4
              refine U_segP (r := [16]) (fuel := 1) rfl (by kernel_rfl) (by kernel_rfl) (by simp only [List.filterMap_cons, List.filterMap_nil, List.getElem?_toArray, List.getElem?_cons_succ, List.getElem?_cons_zero]; rfl) (fun _ _ d _ _ h => by cases d <;> exact h) (until_past (by kernel_rfl)) ?_
              (refine wpYield_step rfl (fun K hK => ?_)
               apply Exists.intro
               refine ⟨fun w' hw' => ?_, ?_⟩
               · (go_simp; try with_reducible rfl)
               go_simp
               refine hK _ ?_
               clear hK K)
              refine wpYield_nil ?_
              refine U_eff 17 rfl (by kernel_rfl) rfl (fun K hK => ?_)
              obtain ⟨u0, _, c0, f0⟩ := O4.out.cellAt hjpn
              go_simp
              refine hK _ _ ⟨until_past (by kernel_rfl), ?_⟩
              clear hK K
              refine U_done (by kernel_rfl) ?_ _
              obtain ⟨o5, g5⟩ := O4.out.set jp (.int .i64 (x : Int))
              obtain ⟨wd, hwd⟩ : ∃ wd, (wc.setCell ⟨g, jp, none⟩ (.int .i64 (x : Int))) = wd := ⟨_, rfl⟩
              rw [hwd] at o5 g5 ⊢
              have O5 := Lib.hid o5; have G5 := Lib.hid (gb_trans G4.out g5)
              clear hwd f0 c0 o5 g5
              go_wp2
              go_roundw
              case rel =>
                refine ⟨jp, M3, z :: M2, by first | rw [e1] | (simp only [e1]), by omega, by have := HJ.out; omega, HJP, Lib.hid (by rw [hMM.out, HM1.out]; simp), Lib.hid ?_, Lib.hid ?_, by first | exact G5 | exact Lib.hid (gb_drew G5.out)⟩
                · intro y' hy'
                  rcases List.mem_cons.1 hy' with rfl | hy'
                  · exact .inl HLT.out
                  · exact hhi.out y' hy'
                · have h := O5.out
                  rw [HLS.out] at h
                  have e : (((L.take a ++ M3) ++ x :: z :: M2 ++ L.drop (i + 1))) = (((L.take a ++ M3) ++ z :: x :: (M2 ++ L.drop (i + 1))).set (jp + 1) z).set jp x := by
                    have := swap_mid (L.take a ++ M3) (M2 ++ L.drop (i + 1)) x z
                    rw [HPL.out] at this
                    rw [this]; simp
                  have e2 : (((L.take a ++ M3) ++ x :: (z :: M2 ++ L.drop (i + 1))).map nv) = ((((L.take a ++ M3) ++ z :: x :: (M2 ++ L.drop (i + 1))).map nv).set j (.int .i64 (z : Int))).set jp (.int .i64 (x : Int)) := by
                    have e3 : (L.take a ++ M3) ++ x :: (z :: M2 ++ L.drop (i + 1)) = (L.take a ++ M3) ++ x :: z :: M2 ++ L.drop (i + 1) := by simp
                    rw [e3, e, List.map_set, List.map_set, HJ.out]; rfl
                  rw [e2]; exact h
              case measure => simp only [intOf]; have := HJ.out; omega
            · rw [decide_eq_false hlt2] at hneg
              have HS := Lib.hid (ins_stop' (M1 := M1) (M2 := M2) (x := x) (by rw [← hMM.out]; exact hpw.out) hhi.out (by rw [← hMM.out]; exact HLO.out) (.inr ⟨M3, z, HM1.out, hlt2⟩))
              clear hlt2
              go_wp2_with fail
              go_quiet (exact Calls.quiet_of (HB.out _))
              go_wp2
              go_roundw
              case rel =>
                refine ⟨i + 1, M1 ++ x :: M2, by go_num, by omega, by omega, Lib.hid ?_, HS, Lib.hid ?_, Lib.hid (gb_drewN hgb2.out _)⟩
                · rw [HT.out]
                  refine List.Perm.trans ?_ (List.perm_append_singleton _ _).symm
                  exact List.perm_middle.trans ((by rw [← hMM.out]; exact hpm.out : (M1 ++ M2).Perm _).cons x)
                · have := ho2.out.drewN nq
                  simpa using this
              case measure => simp only [intOf]; omega
      · have hib' : i = b := by omega
        have HF := Lib.hid (show M.Perm ((L.take b).drop a) ∧ Own wa base 3 1 (some ⟨g, 0, none⟩) n c ((L.take a ++ M ++ L.drop b).map nv) from by rw [← hib']; exact ⟨hpm.out, ho.out⟩)
        clear hib' ho hpm
        go_wp2
        go_end0
        exact ⟨rfl, M, HF.out.1, hpw.out, HF.out.2, hgb.out⟩
end Go.Proofs.Ytobifmndpkjlmaa

