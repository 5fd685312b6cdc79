/- The Go function VmapGroups returns true for every int and slice of changes; without conditions. -/
import Derived.Test.YtfpllllglpjipaaI
import Derived.Test.YtfpllllglpjipaaVmapSwapsW
namespace Go.Proofs.Ytfpllllglpjipaa
open Go.RowKit Go.BW

def grpLen (ps : List Wh) (N g : Nat) : Nat := (inN ps (g : Int) N).length
def GrpRel (w : World) (g l8 N c8 : Nat) (ps : List Wh) (wr : World) : Prop := VS w wr g ps ∧ Own wr 0 31 3 (some ⟨l8, 0, none⟩) N c8 (fl wc ps)
set_option maxRecDepth 100000 in
set_option maxHeartbeats 8000000 in
theorem groups_walk (n0 : Int) (_ : -9223372036854775808 ≤ n0 ∧ n0 ≤ 9223372036854775807) {w : World} (A : Option Addr) (len cap : Nat) (l : List Ch) (hin : InC w A len cap l) :
    Calls Try.prog 6 #[.int .i64 n0, .slice A len cap] w (Ret (.bool true) w) := by
  obtain ⟨hr, hc, hcm, hll, hok⟩ := hin
  have HR := Lib.hid (show Rd w w.heap.size 4 A len (fl cc l) from hr)
  have HOK := Lib.hid hok
  have HLL := Lib.hid hll
  clear hr hok hll
  unfold maxLen at hcm
  obtain ⟨N, hN⟩ : ∃ N, numN n0 = N := ⟨_, rfl⟩
  have hNb := numN_b n0
  have hnew := fun w => new_any n0 w
  rw [hN] at hNb hnew
  have HNEW := Lib.hid hnew; clear hnew hN
  go_enter Try.func6, Try.ntmps6
  go_wp2_with (first | ((with_reducible refine (shown_any _).mono ?_); rintro e w1 ⟨rfl, n1⟩; have N1 := Lib.hid n1; clear n1) |
    (refine (HNEW.out _).mono ?_; rintro e w2 h1; obtain ⟨ga, rfl, s1, hga, n2⟩ := VS.of_new N1.out h1; have S1 := Lib.hid s1; clear s1 h1 hga n2; unfold pv))
  go_loopw [7] (fun i wr => ∃ i' : Nat, i = .int .i64 i' ∧ i' ≤ 100 ∧ i' ≤ len ∧ SetsRel w ga N wr) (fun i _ => 100 - (intOf i).toNat)
  case atStart => exact ⟨0, rfl, by omega, by omega, _, S1.out, inv_zero N, by simp⟩
  case round =>
    obtain ⟨i, rfl, hi1, hi2, ps, s5, inv5, len5⟩ := hrel
    have S5 := Lib.hid s5; have I5 := Lib.hid inv5; have L5 := Lib.hid len5; clear s5 inv5 len5
    by_cases hlt : i < len ∧ i < 100
    · obtain ⟨hlt1, hlt2⟩ := hlt
      obtain ⟨b, off, rfl, _⟩ := HR.out.2 (by omega)
      obtain ⟨x, hx⟩ : ∃ x, l[i]? = some x := ⟨l[i]'(by rw [HLL.out]; exact hlt1), List.getElem?_eq_getElem _⟩
      have HX := Lib.hid hx; clear hx
      go_wp2_with (refine (set_any S5.out.rep (rd_one4 (HR.out.nw S5.out.nw (Nat.le_refl _)) hlt1 HX.out) S5.out.nw.size (by omega) (by simp; exact HOK.out _ (List.mem_of_getElem? HX.out)) I5.out.ok).mono ?_; intro e w6 h6; obtain ⟨rfl, s6, c6⟩ := S5.out.set h6; have S6 := Lib.hid s6; have I6 := Lib.hid (inv_set (l := [x]) I5.out (by simp; exact HOK.out _ (List.mem_of_getElem? HX.out))); clear s6 c6 h6)
      exact ⟨⟨i + 1, by go_num, by omega, hlt1, _, S6.out, I6.out, by rw [setF_len]; exact L5.out⟩, by simp [intOf]; omega⟩
    · have hcases : (¬ i < len) ∨ (i < len ∧ i = 100) := by omega
      clear hlt
      rcases hcases with hlt1 | ⟨hlt1, rfl⟩
      all_goals
        go_wp2_with (refine (all_any S5.out.rep).mono ?_; rintro e w7 ⟨A8, n8, c8, rfl, o7, n7⟩; have hl8 := o7.lenL wc_len (by omega); have hn8 : n8 = N := (by have := L5.out; omega); subst hn8; obtain ⟨l8, rfl, _⟩ := o7.some_ (by omega); have O7 := Lib.hid (o7.more (Nat.zero_le _)); have S7 := Lib.hid (S5.out.more n7); clear o7 n7 hl8)
        go_loopw [9, 10] (fun s i wr => ∃ G : Nat, G ≤ 256 ∧ i = .int .i64 G ∧ s = .int .i64 (sumG (grpLen ps n8) G : Nat) ∧ GrpRel w ga l8 n8 c8 ps wr) (fun _ i _ => 256 - (intOf i).toNat)
        case atStart => exact ⟨0, by omega, rfl, rfl, S7.out, O7.out⟩
        case round =>
          obtain ⟨G, hG, rfl, rfl, s9, o9⟩ := hrel
          have S9 := Lib.hid s9; have O9 := Lib.hid o9; clear s9 o9
          have hsb : ∀ G, G ≤ 256 → sumG (grpLen ps n8) G ≤ G * n8 := by
            intro G _
            induction G with
            | zero => simp [sumG]
            | succ G ih =>
              have h1 := ih (by omega)
              have h2 : grpLen ps n8 G ≤ n8 := inN_le ps _ n8
              unfold sumG
              rw [Nat.succ_mul]
              omega
          have hs1 := hsb G hG
          have hs1' : sumG (grpLen ps n8) G ≤ 24576 := by
            have := Nat.mul_le_mul hG hNb.2
            omega
          clear hsb hs1
          by_cases hlt : G < 256
          · have hin := Lib.hid (fun (w' : World) (h : VRep w' ga ps) => in_any h (G : Int) (fun x hx => (I5.out.ok x hx).1))
            obtain ⟨sG, hsG⟩ : ∃ sG, sumG (grpLen ps n8) G = sG := ⟨_, rfl⟩
            rw [hsG] at hs1' ⊢
            have HSG := Lib.hid hsG; clear hsG
            go_wp2_with (refine (hin.out _ S9.out.rep).mono ?_; rintro e w10 ⟨A10, n10, c10, rfl, o10, m10⟩; have hn10 : (inOf ps (G : Int)).length = n10 := (by have := o10.len; simpa using this); have HN10 := Lib.hid hn10; have hnn : n10 ≤ 96 := (by have h1 := inN_le ps (G : Int) ps.length; have h2 := L5.out; unfold inOf at hn10; omega); have O10 := Lib.hid o10; have OA10 := Lib.hid (O9.out.nw m10); have S10 := Lib.hid (S9.out.more m10); clear o10 m10 hn10)
            go_loopw [12] (fun j wr => ∃ j' : Nat, j' ≤ n10 ∧ j = .int .i64 j' ∧ Nw w10 wr) (fun j _ => n10 - (intOf j).toNat)
            case atStart => exact ⟨0, by omega, rfl, Nw.refl _⟩
            case round =>
              obtain ⟨j, hj, rfl, nw11⟩ := hrel
              have NW11 := Lib.hid nw11; clear nw11
              by_cases hlj : j < n10
              · obtain ⟨rb, ro, hA, hz, _⟩ := O10.out.rd.atF (f := iv) hlj
                obtain ⟨r10, hA2, _⟩ := O10.out.some_ (by omega)
                subst hA2
                injection hA with hA; injection hA with hA1 hA2; subst hA1; subst hA2
                obtain ⟨k, x, hv, hk, hx, h0, hg⟩ := in_mem ps (G : Int) ps.length j ((inOf ps (G : Int))[j]) (List.getElem?_eq_getElem _)
                have hcell : ∀ w', Nw wr w' → w'.cell? ⟨r10, j, none⟩ = some (.int .i64 (k : Int)) := fun w' n' => by
                  obtain ⟨_, _, e, _, hc⟩ := (O10.out.nw (gb_trans NW11.out n')).rd.atF (f := iv) hlj
                  injection e with e; injection e with e1 e2; subst e1; subst e2
                  rw [hv, Nat.zero_add] at hc
                  exact hc
                have hw3 : ∀ w', Nw wr w' → w'.cell? ⟨l8, k * 3, none⟩ = some (.int .i64 x.t) ∧ w'.cell? ⟨l8, k * 3 + 1, none⟩ = some (.int .i64 (G : Int)) := fun w' n' => by
                  have := (OA10.out.nw (gb_trans NW11.out n')).atL wc_len (by omega) hx
                  exact ⟨this 0 _ rfl, by rw [← hg]; exact this 1 _ rfl⟩
                have hw30 := fun w' n' => (hw3 w' n').1
                have hw31 := fun w' n' => (hw3 w' n').2
                have bT : (x.t == 0) = false := by simpa using h0
                have bk : decide (n8 ≤ k) = false := by have := L5.out; simp; omega
                have hkn : k < n8 := by have := L5.out; omega
                have HXX := Lib.hid hx
                have hvk := hv
                clear hx h0 hg hv hw3
                rcases (show j = 0 ∨ 0 < j from by omega) with rfl | hj0
                · have hcell0 : ∀ w', Nw wr w' → w'.cell? ⟨r10, 0, none⟩ = some (.int .i64 (k : Int)) := hcell
                  clear hcell
                  go_wp2_with fail
                  refine wp_region_held (S := (fun w' => Nw wr w')) (by kernel_rfl) ?_
                  change wpAnyH _ _ _ _ _ _ _ _ (World.drew wr)
                  refine held_seg' (l := [0, 1, 2, 3, 4, 5, 6, 7, 8, 9, 10, 11, 12, 13, 14, 15, 16, 17, 18, 19, 20, 21, 22, 23, 24, 25, 26, 27, 28, 29, 30, 31, 32, 33, 34, 35, 36, 37, 38, 39, 40, 41, 42, 43, 44, 45, 46, 47, 48, 49, 50, 51, 52]) (fuel := 0) rfl (by kernel_rfl) (by kernel_rfl) (by simp only [List.filterMap_cons, List.filterMap_nil, List.getElem?_toArray, List.getElem?_cons_succ, List.getElem?_cons_zero]; rfl) (fun _ _ d _ _ h => by cases d <;> exact h) (gb_drew (Nw.refl wr)) ?_
                  iterate 41 (refine wpYield_step rfl (fun K hK => ?_)
                              apply Exists.intro
                              refine ⟨fun w' hw' => ?_, ?_⟩
                              · (go_simp; try with_reducible rfl)
                              go_simp
                              refine hK _ ?_
                              clear hK K)
                  iterate 10 (refine wpYield_skipK rfl (fun K hK => ?_); go_simp; refine hK _ ?_; clear hK K)
                  iterate 2 (refine wpYield_step rfl (fun K hK => ?_)
                             apply Exists.intro
                             refine ⟨fun w' hw' => ?_, ?_⟩
                             · (go_simp; try with_reducible rfl)
                             go_simp
                             refine hK _ ?_
                             clear hK K)
                  refine wpYield_nil ?_
                  refine wpAnyH_done (by kernel_rfl) ?_ _
                  go_wp2
                  exact ⟨⟨0 + 1, hlj, by go_num, gb_trans NW11.out (gb_drew (Nw.refl wr))⟩, by simp [intOf]; omega⟩
                · obtain ⟨k', x', hv', hk', hx', _⟩ := in_mem ps (G : Int) ps.length (j - 1) ((inOf ps (G : Int))[j - 1]'(by have := HN10.out; omega)) (List.getElem?_eq_getElem _)
                  have hlj' : j - 1 < n10 := by omega
                  have hcell' : ∀ w', Nw wr w' → w'.cell? ⟨r10, j - 1, none⟩ = some (.int .i64 (k' : Int)) := fun w' n' => by
                    obtain ⟨_, _, e, _, hc⟩ := (O10.out.nw (gb_trans NW11.out n')).rd.atF (f := iv) hlj'
                    injection e with e; injection e with e1 e2; subst e1; subst e2
                    rw [hv', Nat.zero_add] at hc
                    exact hc
                  have hlt' : k' < k := by
                    have := in_rise ps (G : Int) ps.length (j - 1) j (k' : Int) (k : Int) (by omega) (by rw [← hv']; exact List.getElem?_eq_getElem _) (by rw [← hvk]; exact List.getElem?_eq_getElem _)
                    omega
                  have bkk : decide (k ≤ k') = false := by simp; omega
                  have bw : IntKind.i64.wrap ((j : Int) - 1) = ((j - 1 : Nat) : Int) := by rw [IntWalk.i64_in _ (by omega)]; omega
                  clear hv' hk' hx' hlt'
                  go_wp2_with fail
                  refine wp_region_held (S := (fun w' => Nw wr w')) (by kernel_rfl) ?_
                  change wpAnyH _ _ _ _ _ _ _ _ (World.drew wr)
                  refine held_seg' (l := [0, 1, 2, 3, 4, 5, 6, 7, 8, 9, 10, 11, 12, 13, 14, 15, 16, 17, 18, 19, 20, 21, 22, 23, 24, 25, 26, 27, 28, 29, 30, 31, 32, 33, 34, 35, 36, 37, 38, 39, 40, 41, 42, 43, 44, 45, 46, 47, 48, 49, 50, 51, 52]) (fuel := 0) rfl (by kernel_rfl) (by kernel_rfl) (by simp only [List.filterMap_cons, List.filterMap_nil, List.getElem?_toArray, List.getElem?_cons_succ, List.getElem?_cons_zero]; rfl) (fun _ _ d _ _ h => by cases d <;> exact h) (gb_drew (Nw.refl wr)) ?_
                  iterate 53 (refine wpYield_step rfl (fun K hK => ?_)
                              apply Exists.intro
                              refine ⟨fun w' hw' => ?_, ?_⟩
                              · (go_simp; try with_reducible rfl)
                              go_simp
                              refine hK _ ?_
                              clear hK K)
                  refine wpYield_nil ?_
                  refine wpAnyH_done (by kernel_rfl) ?_ _
                  clear bw
                  go_wp2
                  exact ⟨⟨j + 1, hlj, by go_num, gb_trans NW11.out (gb_drew (Nw.refl wr))⟩, by simp [intOf]; omega⟩
              · have hj' : j = n10 := by omega
                subst hj'
                have hs2 : sumG (grpLen ps n8) (G + 1) = sG + j := by
                  unfold sumG
                  rw [HSG.out]
                  congr 1
                  have h1 := HN10.out
                  have h2 := L5.out
                  unfold inOf at h1
                  rw [h2] at h1
                  exact h1
                have HS2 := Lib.hid hs2; clear hs2
                go_wp2
                exact ⟨⟨G + 1, by omega, by go_num, by rw [HS2.out]; go_num, S10.out.more NW11.out, OA10.out.nw NW11.out⟩, by simp [intOf]; omega⟩
          · have hG' : G = 256 := by omega
            subst hG'
            obtain ⟨sG, hsG⟩ : ∃ sG, sumG (grpLen ps n8) 256 = sG := ⟨_, rfl⟩
            rw [hsG] at hs1' ⊢
            have HALL := Lib.hid (show sG + noneN ps n8 = n8 from by
              have h1 := groups_all I5.out.may ps.length (Nat.le_refl _)
              rw [L5.out] at h1
              rw [← hsG]
              exact h1)
            clear hsG
            go_wp2_with fail
            go_loopw [9, 13] (fun s i wr => ∃ k : Nat, k ≤ n8 ∧ i = .int .i64 k ∧ s = .int .i64 (sG + noneN ps k : Nat) ∧ GrpRel w ga l8 n8 c8 ps wr) (fun _ i _ => n8 - (intOf i).toNat)
            case atStart => exact ⟨0, by omega, rfl, rfl, S9.out, O9.out⟩
            case round =>
              obtain ⟨k, hk, rfl, rfl, s9, o9⟩ := hrel
              have S12 := Lib.hid s9; have O12 := Lib.hid o9; clear s9 o9
              by_cases hlk : k < n8
              · obtain ⟨x, hx⟩ : ∃ x, ps[k]? = some x := ⟨ps[k]'(by have := L5.out; omega), List.getElem?_eq_getElem _⟩
                have e0 := O12.out.atL wc_len (by omega) hx 0 _ rfl
                rw [Nat.add_zero] at e0
                have hle : ∀ k, noneN ps k ≤ k := by
                  intro k
                  induction k with
                  | zero => simp [noneN]
                  | succ k ih =>
                    unfold noneN
                    split
                    · split <;> omega
                    · omega
                have hle1 := hle k
                obtain ⟨nk, hnk⟩ : ∃ nk, noneN ps k = nk := ⟨_, rfl⟩
                have HST := Lib.hid (show noneN ps (k + 1) = nk + if x.t = 0 then 1 else 0 from by rw [noneN, hx, hnk])
                rw [hnk] at hle1 ⊢
                obtain ⟨sn, hsn⟩ : ∃ sn, sG + nk = sn := ⟨_, rfl⟩
                rw [hsn]
                have HSN := Lib.hid hsn
                have hsb : sn ≤ 24672 := by omega
                clear hx hle hnk hsn hle1
                rcases (show x.t = 0 ∨ x.t ≠ 0 from by omega) with h0 | h0
                · have b0 : (x.t == 0) = true := by simpa using h0
                  have HH := Lib.hid h0; clear h0
                  go_wp2
                  exact ⟨⟨k + 1, hlk, by go_num, by rw [HST.out, if_pos HH.out, ← Nat.add_assoc, HSN.out]; go_num, S12.out, O12.out⟩, by simp [intOf]; omega⟩
                · have b0 : (x.t == 0) = false := by simpa using h0
                  have HH := Lib.hid h0; clear h0
                  go_wp2
                  exact ⟨⟨k + 1, hlk, by go_num, by rw [HST.out, if_neg HH.out, Nat.add_zero, HSN.out], S12.out, O12.out⟩, by simp [intOf]; omega⟩
              · have hk' : k = n8 := by omega
                subst hk'
                rw [HALL.out]
                go_wp2
                go_ret
                exact ⟨rfl, S12.out.nw⟩
end Go.Proofs.Ytfpllllglpjipaa

