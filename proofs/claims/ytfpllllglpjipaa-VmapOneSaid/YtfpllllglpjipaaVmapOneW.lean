/- The Go function VmapOne returns true for every int and slice of slices of changes; without conditions. -/
import Derived.Test.YtfpllllglpjipaaOO
import Derived.Test.YtfpllllglpjipaaQ
import Derived.Test.YtfpllllglpjipaaCut
import Derived.Test.YtfpllllglpjipaaVmapSwapsW
namespace Go.Proofs.Ytfpllllglpjipaa
open Go.RowKit Go.BW

theorem own_chg {w w' : World} {g l n c : Nat} {xs : List Value} {ps : List Wh} (h : Own w 0 31 3 (some ⟨l, 0, none⟩) n c xs) (hg : VRep w g ps) (k : Chg w w' [g]) : Own w' 0 31 3 (some ⟨l, 0, none⟩) n c xs := by
  obtain ⟨l', b', c', hg⟩ := hg
  obtain ⟨cur, ho⟩ := h.obj
  exact h.eqb (k.block l ho.lt (by simp; exact ho.ne hg.obj (by decide)))
def OneRel (w : World) (g l9 N c9 : Nat) (ps : List Wh) (wr : World) : Prop := VS w wr g ps ∧ Own wr 0 31 3 (some ⟨l9, 0, none⟩) N c9 (fl wc ps)
set_option maxRecDepth 100000 in
set_option maxHeartbeats 8000000 in
theorem one_walk (n0 : Int) (_ : -9223372036854775808 ≤ n0 ∧ n0 ≤ 9223372036854775807) {w : World} (A : Option Addr) (len cap : Nat) (l : List Sl) (hin : InCC w A len cap l) :
    Calls Try.prog 8 #[.int .i64 n0, .slice A len cap] w (Ret (.bool true) w) := by
  obtain ⟨hr, hc, hcm, hll, hok⟩ := hin
  have HR := Lib.hid (show Rd w w.heap.size 1 A len (fl slc l) from hr)
  have HOK := Lib.hid hok
  clear hr hok hll
  unfold maxLen at hcm
  obtain ⟨N, hN⟩ : ∃ N, numN n0 = N := ⟨_, rfl⟩
  have hNb := numN_b n0
  have hnew := fun w => new_any n0 w
  rw [hN] at hNb hnew
  have HNEW := Lib.hid hnew; clear hnew hN
  obtain ⟨i0, hi0, hz0, _⟩ := T28.info
  have HZ := Lib.hid hz0; clear hz0
  have H0 := Lib.hid hi0; clear hi0
  go_enter Try.func8, Try.ntmps8
  go_wp2_with (first | ((with_reducible refine (shown_any _).mono ?_); rintro e w1 ⟨rfl, n1⟩; have N1 := Lib.hid n1; clear n1) |
    (refine (HNEW.out _).mono ?_; rintro e w2 h1; obtain ⟨ga, rfl, s1, hga, n2⟩ := VS.of_new N1.out h1; have S1 := Lib.hid s1; clear s1 h1 hga n2; unfold pv))
  go_loopw [7] (fun i wr => ∃ i' : Nat, i = .int .i64 i' ∧ i' ≤ 40 ∧ i' ≤ len ∧ SetsRel w ga N wr) (fun i _ => 40 - (intOf i).toNat)
  case atStart => exact ⟨0, rfl, by omega, by omega, _, S1.out, inv_zero N, by simp⟩
  case round =>
    obtain ⟨i, rfl, hi1, hi2, ps, s5, inv5, len5⟩ := hrel
    obtain ⟨w5, hw5⟩ : ∃ w5, w5 = wr := ⟨_, rfl⟩
    subst hw5
    have S5 := Lib.hid s5; have I5 := Lib.hid inv5; have L5 := Lib.hid len5; clear s5 inv5 len5
    by_cases hlt : i < len ∧ i < 40
    · obtain ⟨hlt1, hlt2⟩ := hlt
      obtain ⟨b, off, x, rfl, hx, hcx⟩ := sl1 HR.out (Nat.le_refl _) hlt1
      have hX : InC w x.A x.n x.c x.l := HOK.out x (List.mem_of_getElem? hx)
      obtain ⟨xA, xn, xc, xl⟩ := x
      simp only at hX hcx
      obtain ⟨k, hk⟩ : ∃ k, min xn 20 = k := ⟨_, rfl⟩
      have HCX := Lib.hid hcx
      obtain ⟨hxr, hkc, hxo⟩ := hX.take k (by omega)
      have HXR := Lib.hid hxr; have HXO := Lib.hid hxo
      obtain ⟨xs, hxs⟩ : ∃ xs, xl.take k = xs := ⟨_, rfl⟩
      rw [hxs] at HXR HXO
      have hk20 : k ≤ 20 := by omega
      have HK := Lib.hid hk
      clear hX hcx hx hxr hxo hxs hk
      obtain ⟨r, hr⟩ : ∃ r, (setF ps xs).1 = r := ⟨_, rfl⟩
      obtain ⟨qs, hqs⟩ : ∃ qs, (setF ps xs).2 = qs := ⟨_, rfl⟩
      have HRR := Lib.hid hr; have HQS := Lib.hid hqs
      have HSAME := Lib.hid (show r ≠ 0 → qs = ps from fun h => by rw [← hqs]; exact setF_no (by rw [hr]; exact h))
      have IQ := Lib.hid (show Inv qs from by rw [← hqs]; exact inv_set I5.out HXO.out)
      have LQ := Lib.hid (show qs.length = N from by rw [← hqs, setF_len]; exact L5.out)
      clear hr hqs
      go_wp2_with (first
        | (refine (all_any S5.out.rep).mono ?_; rintro e w6 ⟨A8, n8, c8, rfl, o6, n6⟩; have S6 := Lib.hid (S5.out.more n6); have O6 := Lib.hid (o6.more (Nat.zero_le _)); clear o6 n6; have hn8 := O6.out.lenL wc_len (by omega); have hn8' : n8 = N := (by have := L5.out; omega); subst hn8'; clear hn8; have hc0 := HCX.out _ S6.out.nw)
        )
      refine wp_region_held (S := (fun w' => w'.cell? ⟨b, off + i, none⟩ = some (.slice xA xn xc))) (by kernel_rfl) ?_
      change wpAnyH _ _ _ _ _ _ _ _ (World.drew w6)
      refine held_seg' (l := [0, 1, 2, 3, 4, 5, 6, 7, 8, 9, 10, 11]) (fuel := 9) rfl (by kernel_rfl) (by kernel_rfl) (by simp only [List.filterMap_cons, List.filterMap_nil, List.getElem?_toArray, List.getElem?_cons_succ, List.getElem?_cons_zero]; rfl) (fun _ _ d _ _ h => by cases d <;> exact h) hc0 ?_
      iterate 10 (refine wpYield_step rfl (fun K hK => ?_)
                  apply Exists.intro
                  refine ⟨fun w' hw' => ?_, ?_⟩
                  · (go_simp; try with_reducible rfl)
                  go_simp
                  refine hK _ ?_
                  clear hK K)
      refine wpYield_min _ _ _ rfl rfl xn 20 rfl rfl HK.out ?_
      refine wpYield_slice_hi 22 33 Try.underlying22 i33 _ _ rfl rfl xA xn xc k rfl rfl hkc ?_
      refine wpYield_nil ?_
      refine held_eff 12 rfl (by kernel_rfl) rfl (fun K hK => ?_)
      go_simp
      have T6 := Lib.hid (S6.out.more (gb_drew (Nw.refl w6)))
      obtain ⟨l8, rfl, _⟩ := O6.out.some_ (by omega)
      refine (set_any T6.out.rep (HXR.out.nw T6.out.nw (Nat.le_refl _)) T6.out.nw.size (by omega) HXO.out I5.out.ok).mono ?_
      intro e w7 h7
      obtain ⟨he, s7, c7⟩ := T6.out.set h7
      rw [HRR.out] at he
      rw [HQS.out] at s7
      subst he
      have S7 := Lib.hid s7; have O7 := Lib.hid (own_chg (Own.nw O6.out (gb_drew (Nw.refl w6))) T6.out.rep c7)
      clear s7 c7 h7
      refine hK _ _ ⟨HCX.out _ S7.out.nw, ?_⟩
      clear hK K hc0
      rcases (show r = 0 ∨ r ≠ 0 from by omega) with h0 | h0
      · subst h0
        refine held_seg' (l := [13, 14, 15, 16, 17, 18, 19, 20]) (fuel := 0) rfl (by kernel_rfl) (by kernel_rfl) (by simp only [List.filterMap_cons, List.filterMap_nil, List.getElem?_toArray, List.getElem?_cons_succ, List.getElem?_cons_zero]; rfl) (fun _ _ d _ _ h => by cases d <;> exact h) (HCX.out _ S7.out.nw) ?_
        iterate 2 (refine wpYield_step rfl (fun K hK => ?_)
                   apply Exists.intro
                   refine ⟨fun w' hw' => ?_, ?_⟩
                   · (go_simp; try with_reducible rfl)
                   go_simp
                   refine hK _ ?_
                   clear hK K)
        iterate 5 (refine wpYield_skipK rfl (fun K hK => ?_); go_simp; refine hK _ ?_; clear hK K)
        (refine wpYield_step rfl (fun K hK => ?_)
         apply Exists.intro
         refine ⟨fun w' hw' => ?_, ?_⟩
         · (go_simp; try with_reducible rfl)
         go_simp
         refine hK _ ?_
         clear hK K)
        refine wpYield_nil ?_
        refine wpAnyH_done (by kernel_rfl) ?_ _
        obtain ⟨w9, hw9⟩ : ∃ w9, w9 = w7 := ⟨_, rfl⟩
        subst hw9
        have S9 := S7
        clear O7 T6
        go_wp2_with (first
          | (refine (twice_any P10.out.rd (Nat.le_refl _) (by omega)).mono ?_; rintro e w11 ⟨rfl, n11⟩; have S11 := Lib.hid (S10.out.more n11); have P11 := Lib.hid (P10.out.nw n11); clear n11; rw [show dupN qs n10 = false from by have := IQ.out.dup; rw [LQ.out] at this; exact this])
          | (refine (all_any S9.out.rep).mono ?_; rintro e w10 ⟨A10, n10, c10, rfl, o10, n10⟩; have S10 := Lib.hid (S9.out.more n10); have P10 := Lib.hid (o10.more (Nat.zero_le _)); clear o10 n10; have hn10 := P10.out.lenL wc_len (by omega); have hn10' : n10 = n8 := (by have := LQ.out; omega); subst hn10'; clear hn10; obtain ⟨l10, rfl, _⟩ := P10.out.some_ (by omega))
          )
        clear S6 O6 S9 P10 S10
        go_loopw [11] (fun j wr => ∃ j' : Nat, j' ≤ n10 ∧ j = .int .i64 j' ∧ OneRel w ga l10 n10 c10 qs wr) (fun j _ => n10 - (intOf j).toNat)
        case atStart => exact ⟨0, by omega, rfl, S11.out, P11.out⟩
        case round =>
          obtain ⟨j, hj, rfl, s12, p12⟩ := hrel
          obtain ⟨w12, hw12⟩ : ∃ w12, w12 = wr := ⟨_, rfl⟩
          subst hw12
          have S12 := Lib.hid s12; have P12 := Lib.hid p12; clear s12 p12 S11 P11
          by_cases hlj : j < n10
          · obtain ⟨x, hx⟩ : ∃ x, qs[j]? = some x := ⟨qs[j]'(by rw [LQ.out]; exact hlj), List.getElem?_eq_getElem _⟩
            obtain ⟨xt, xg, xs⟩ := x
            have HX := Lib.hid hx; clear hx
            go_wp2_with (first
              | (refine wpList_store_own (cs := wc ⟨xt, xg, xs⟩) 31 _ _ rfl rfl rfl rfl rfl i31 (wc_one _) A14.out (by show 0 + 3 ≤ 1 * 3; omega) ?_; intro w15 s1 s2; have o3 := Own.row1' s1; rw [splice_all _ _ (by rfl)] at o3; have m3 := nw_of_gb B14.out s2 (by intro x e; injection e with e; subst e; exact C14.out); have X15 := Lib.hid (show Obj1 w15 v 31 (wc ⟨xt, xg, xs⟩).toArray from o3); have S15 := Lib.hid (S13.out.more m3); have P15 := Lib.hid (P13.out.nw m3); clear o3 s1 s2 m3)
              | (refine wpList_alloc (size := 3) 31 rfl rfl w.heap.size i0 H0.out HZ.out rfl (S13.out.nw).size ?_; intro v w14 a1 a2 a3; have A14 := Lib.hid a1; have B14 := Lib.hid a2; have C14 := Lib.hid a3; have S14 := Lib.hid (S13.out.more a2); have P14 := Lib.hid (P13.out.nw a2); clear a1 a2 a3)
              | (refine (at_in S12.out.rep j ⟨xt, xg, xs⟩ HX.out).mono ?_; rintro e w13 ⟨rfl, n13⟩; have S13 := Lib.hid (S12.out.more n13); have P13 := Lib.hid (P12.out.nw n13); clear n13)
              )
            have k0 : ∀ w', Nw w15 w' → w'.cell? ⟨v, 0, none⟩ = some (.int .i64 xt) := fun w' n => (w3cells (Obj1.nw X15.out n)).1
            have k1 : ∀ w', Nw w15 w' → w'.cell? ⟨v, 1, none⟩ = some (.int .i64 xg) := fun w' n => (w3cells (Obj1.nw X15.out n)).2.1
            have k2 : ∀ w', Nw w15 w' → w'.cell? ⟨v, 2, none⟩ = some (.int .i64 xs) := fun w' n => (w3cells (Obj1.nw X15.out n)).2.2
            have f0 : ∀ w', Nw w15 w' → w'.cell? ⟨l10, j * 3, none⟩ = some (.int .i64 xt) := fun w' n => (P15.out.nw n).atL wc_len (by omega) HX.out 0 _ rfl
            have f1 : ∀ w', Nw w15 w' → w'.cell? ⟨l10, j * 3 + 1, none⟩ = some (.int .i64 xg) := fun w' n => (P15.out.nw n).atL wc_len (by omega) HX.out 1 _ rfl
            have f2 : ∀ w', Nw w15 w' → w'.cell? ⟨l10, j * 3 + 2, none⟩ = some (.int .i64 xs) := fun w' n => (P15.out.nw n).atL wc_len (by omega) HX.out 2 _ rfl
            refine wp_region_held (S := (fun w' => Nw w15 w')) (by kernel_rfl) ?_
            change wpAnyH _ _ _ _ _ _ _ _ (World.drew w15)
            refine held_seg' (l := [0, 1, 2, 3, 4, 5, 6, 7, 8, 9]) (fuel := 0) rfl (by kernel_rfl) (by kernel_rfl) (by simp only [List.filterMap_cons, List.filterMap_nil, List.getElem?_toArray, List.getElem?_cons_succ, List.getElem?_cons_zero]; rfl) (fun _ _ d _ _ h => by cases d <;> exact h) (gb_drew (Nw.refl w15)) ?_
            iterate 8 (refine wpYield_step rfl (fun K hK => ?_)
                       apply Exists.intro
                       refine ⟨fun w' hw' => ?_, ?_⟩
                       · (go_simp; try with_reducible rfl)
                       go_simp
                       refine hK _ ?_
                       clear hK K)
            refine wpYield_eq_wh rfl true _ _ _ rfl rfl ⟨xt, xg, xs⟩ ⟨xt, xg, xs⟩ rfl rfl false (by simp) ?_
            (refine wpYield_step rfl (fun K hK => ?_)
             apply Exists.intro
             refine ⟨fun w' hw' => ?_, ?_⟩
             · (go_simp; try with_reducible rfl)
             go_simp
             refine hK _ ?_
             clear hK K)
            refine wpYield_nil ?_
            refine wpAnyH_done (by kernel_rfl) ?_ _
            have d0 := k0 _ (gb_drew (Nw.refl w15)); have d1 := k1 _ (gb_drew (Nw.refl w15)); have d2 := k2 _ (gb_drew (Nw.refl w15))
            have S20 := Lib.hid (S15.out.more (gb_drew (Nw.refl w15))); have P20 := Lib.hid (P15.out.nw (gb_drew (Nw.refl w15))); have X20 := Lib.hid (Obj1.nw X15.out (gb_drew (Nw.refl w15)))
            generalize w15.drew = w20 at S20 P20 X20 d0 d1 d2 ⊢
            clear k0 k1 k2 f0 f1 f2
            clear S12 P12 S13 P13 S14 P14 S15 P15 X15
            by_cases ht : xt = 0
            · subst ht
              go_wp2
              exact ⟨⟨j + 1, hlj, by go_num, S20.out, P20.out⟩, by simp [intOf]; omega⟩
            · have bt : (xt == 0) = false := by simpa using ht
              have HH := Lib.hid (show look (heldOf qs) ⟨xt, xg, xs⟩ = some (j : Int) from hold_at ((dup_iff _ _).1 IQ.out.dup) HX.out ht)
              have HIN := Lib.hid (show (j : Int) ∈ inOf qs xg from in_has qs xg HX.out ht rfl _ (by rw [LQ.out]; exact hlj))
              clear ht
              go_wp2_with (first
                | (refine (in_any S21.out.rep xg (fun x hx => (IQ.out.ok x hx).1)).mono ?_; rintro e w22 ⟨A22, n22, c22, rfl, o22, n22⟩; have S22 := Lib.hid (S21.out.more n22); have P22 := Lib.hid (P21.out.nw n22); have X22 := Lib.hid (Obj1.nw X21.out n22); have G22 := Lib.hid (o22.more (Nat.zero_le _)); clear o22 n22; have hg := G22.out.len; have hg2 := inN_le qs xg qs.length; have hg3 : n22 ≤ 96 := (by have := LQ.out; unfold inOf at hg; rw [List.length_map] at hg; omega); clear hg2 hg; clear d0 d1 d2 e0 e1 e2)
                | (refine (holder_any S20.out.rep ⟨xt, xg, xs⟩).mono ?_; rintro e w21 ⟨rfl, n21⟩; have S21 := Lib.hid (S20.out.more n21); have P21 := Lib.hid (P20.out.nw n21); have X21 := Lib.hid (Obj1.nw X20.out n21); clear n21; rw [HH.out]; obtain ⟨e0, e1, e2⟩ := w3cells X21.out)
                )
              go_loopw [16, 18] (fun s t wr => ∃ (m : Nat) (q : Bool), m ≤ n22 ∧ t = .int .i64 m ∧ s = .bool q ∧ Hid (q = decide ((j : Int) ∈ (inOf qs xg).take m)) ∧ Nw w22 wr) (fun _ t _ => n22 - (intOf t).toNat)
              case atStart => exact ⟨0, false, by omega, rfl, rfl, Lib.hid (by simp), Nw.refl _⟩
              case round =>
                obtain ⟨m, q, hm, rfl, rfl, HQ, nw23⟩ := hrel
                have NW23 := Lib.hid nw23; clear nw23
                by_cases hlm : m < n22
                · obtain ⟨rb, ro, hA, hz, hcl⟩ := (G22.out.nw NW23.out).rd.atF (f := iv) hlm
                  subst hA
                  obtain ⟨y, hy⟩ : ∃ y, (inOf qs xg)[m] = y := ⟨_, rfl⟩
                  have HTK := Lib.hid (show (inOf qs xg).take (m + 1) = (inOf qs xg).take m ++ [y] from by rw [List.take_succ_eq_append_getElem hz, hy])
                  rw [hy] at hcl
                  clear hy hz
                  unfold iv at hcl
                  cases q with
                  | true =>
                    go_wp2
                    exact ⟨⟨m + 1, true, hlm, by go_num, rfl, Lib.hid (by rw [HTK.out]; have := HQ.out; symm at this; simp only [decide_eq_true_eq] at this; simp [this]), NW23.out⟩, by simp [intOf]; omega⟩
                  | false =>
                    by_cases hyj : y = (j : Int)
                    · subst hyj
                      go_wp2
                      exact ⟨⟨m + 1, true, hlm, by go_num, rfl, Lib.hid (by rw [HTK.out]; simp), NW23.out⟩, by simp [intOf]; omega⟩
                    · have by0 : (y == (j : Int)) = false := by simpa using hyj
                      have HYJ := Lib.hid hyj; clear hyj
                      go_wp2
                      exact ⟨⟨m + 1, false, hlm, by go_num, rfl, Lib.hid (by rw [HTK.out]; have := HQ.out; symm at this; simp only [decide_eq_false_iff_not] at this; have h2 := HYJ.out; simp [this]; omega), NW23.out⟩, by simp [intOf]; omega⟩
                · have hm' : m = n22 := by omega
                  subst hm'
                  have hq : q = true := by
                    rw [HQ.out, List.take_of_length_le (by have := G22.out.len; rw [List.length_map] at this; omega)]
                    exact decide_eq_true HIN.out
                  subst hq
                  go_wp2
                  exact ⟨⟨j + 1, hlj, by go_num, S22.out.more NW23.out, P22.out.nw NW23.out⟩, by simp [intOf]; omega⟩
          · have hj' : j = n10 := by omega
            subst hj'
            go_wp2
            exact ⟨⟨i + 1, by go_num, by omega, hlt1, _, S12.out, IQ.out, LQ.out⟩, by simp [intOf]; omega⟩
      · have b0 : (r != 0) = true := by simpa using h0
        have hqp := HSAME.out h0
        have HE := Lib.hid (show eqL qs ps = true from by rw [hqp]; exact eqL_self _)
        clear h0 hqp
        refine held_seg' (l := [13, 14, 15, 17]) (fuel := 4) rfl (by kernel_rfl) (by kernel_rfl) (by simp only [List.filterMap_cons, List.filterMap_nil, List.getElem?_toArray, List.getElem?_cons_succ, List.getElem?_cons_zero]; rfl) (fun _ _ d _ _ h => by cases d <;> exact h) (HCX.out _ S7.out.nw) ?_
        iterate 4 (refine wpYield_step rfl (fun K hK => ?_)
                   apply Exists.intro
                   refine ⟨fun w' hw' => ?_, ?_⟩
                   · (go_simp; try with_reducible rfl)
                   go_simp
                   refine hK _ ?_
                   clear hK K)
        refine wpYield_nil ?_
        refine held_eff 16 rfl (by kernel_rfl) rfl (fun K hK => ?_)
        go_simp
        refine (all_any S7.out.rep).mono ?_
        rintro e w8 ⟨A9, n9, c9, rfl, o8, m8⟩
        have S8 := Lib.hid (S7.out.more m8); have O8 := Lib.hid (O7.out.nw m8); have P8 := Lib.hid o8; have hn9 := o8.lenL wc_len (by omega)
        have hn9' : n8 = n9 := by have := LQ.out; omega
        subst hn9'
        clear o8 m8 hn9
        refine hK _ _ ⟨HCX.out _ S8.out.nw, ?_⟩
        clear hK K
        refine held_eff 18 rfl (by kernel_rfl) rfl (fun K hK => ?_)
        go_simp
        refine (same_any P8.out.rd O8.out.rd (Nat.le_refl _) (by omega) (by omega)).mono ?_
        rintro e w9 ⟨rfl, m9⟩
        rw [HE.out]
        have S9 := Lib.hid (S8.out.more m9)
        clear m9
        refine hK _ _ ⟨HCX.out _ S9.out.nw, ?_⟩
        clear hK K O7 O8 P8 S7 S8 T6 HE
        refine held_seg' (l := [19, 20]) (fuel := 0) rfl (by kernel_rfl) (by kernel_rfl) (by simp only [List.filterMap_cons, List.filterMap_nil, List.getElem?_toArray, List.getElem?_cons_succ, List.getElem?_cons_zero]; rfl) (fun _ _ d _ _ h => by cases d <;> exact h) (HCX.out _ S9.out.nw) ?_
        iterate 2 (refine wpYield_step rfl (fun K hK => ?_)
                   apply Exists.intro
                   refine ⟨fun w' hw' => ?_, ?_⟩
                   · (go_simp; try with_reducible rfl)
                   go_simp
                   refine hK _ ?_
                   clear hK K)
        refine wpYield_nil ?_
        refine wpAnyH_done (by kernel_rfl) ?_ _
        go_wp2_with (first
          | (refine (twice_any P10.out.rd (Nat.le_refl _) (by omega)).mono ?_; rintro e w11 ⟨rfl, n11⟩; have S11 := Lib.hid (S10.out.more n11); have P11 := Lib.hid (P10.out.nw n11); clear n11; rw [show dupN qs n10 = false from by have := IQ.out.dup; rw [LQ.out] at this; exact this])
          | (refine (all_any S9.out.rep).mono ?_; rintro e w10 ⟨A10, n10, c10, rfl, o10, n10⟩; have S10 := Lib.hid (S9.out.more n10); have P10 := Lib.hid (o10.more (Nat.zero_le _)); clear o10 n10; have hn10 := P10.out.lenL wc_len (by omega); have hn10' : n10 = n8 := (by have := LQ.out; omega); subst hn10'; clear hn10; obtain ⟨l10, rfl, _⟩ := P10.out.some_ (by omega))
          )
        clear S6 O6 S9 P10 S10
        go_loopw [11] (fun j wr => ∃ j' : Nat, j' ≤ n10 ∧ j = .int .i64 j' ∧ OneRel w ga l10 n10 c10 qs wr) (fun j _ => n10 - (intOf j).toNat)
        case atStart => exact ⟨0, by omega, rfl, S11.out, P11.out⟩
        case round =>
          obtain ⟨j, hj, rfl, s12, p12⟩ := hrel
          obtain ⟨w12, hw12⟩ : ∃ w12, w12 = wr := ⟨_, rfl⟩
          subst hw12
          have S12 := Lib.hid s12; have P12 := Lib.hid p12; clear s12 p12 S11 P11
          by_cases hlj : j < n10
          · obtain ⟨x, hx⟩ : ∃ x, qs[j]? = some x := ⟨qs[j]'(by rw [LQ.out]; exact hlj), List.getElem?_eq_getElem _⟩
            obtain ⟨xt, xg, xs⟩ := x
            have HX := Lib.hid hx; clear hx
            go_wp2_with (first
              | (refine wpList_store_own (cs := wc ⟨xt, xg, xs⟩) 31 _ _ rfl rfl rfl rfl rfl i31 (wc_one _) A14.out (by show 0 + 3 ≤ 1 * 3; omega) ?_; intro w15 s1 s2; have o3 := Own.row1' s1; rw [splice_all _ _ (by rfl)] at o3; have m3 := nw_of_gb B14.out s2 (by intro x e; injection e with e; subst e; exact C14.out); have X15 := Lib.hid (show Obj1 w15 v 31 (wc ⟨xt, xg, xs⟩).toArray from o3); have S15 := Lib.hid (S13.out.more m3); have P15 := Lib.hid (P13.out.nw m3); clear o3 s1 s2 m3)
              | (refine wpList_alloc (size := 3) 31 rfl rfl w.heap.size i0 H0.out HZ.out rfl (S13.out.nw).size ?_; intro v w14 a1 a2 a3; have A14 := Lib.hid a1; have B14 := Lib.hid a2; have C14 := Lib.hid a3; have S14 := Lib.hid (S13.out.more a2); have P14 := Lib.hid (P13.out.nw a2); clear a1 a2 a3)
              | (refine (at_in S12.out.rep j ⟨xt, xg, xs⟩ HX.out).mono ?_; rintro e w13 ⟨rfl, n13⟩; have S13 := Lib.hid (S12.out.more n13); have P13 := Lib.hid (P12.out.nw n13); clear n13)
              )
            have k0 : ∀ w', Nw w15 w' → w'.cell? ⟨v, 0, none⟩ = some (.int .i64 xt) := fun w' n => (w3cells (Obj1.nw X15.out n)).1
            have k1 : ∀ w', Nw w15 w' → w'.cell? ⟨v, 1, none⟩ = some (.int .i64 xg) := fun w' n => (w3cells (Obj1.nw X15.out n)).2.1
            have k2 : ∀ w', Nw w15 w' → w'.cell? ⟨v, 2, none⟩ = some (.int .i64 xs) := fun w' n => (w3cells (Obj1.nw X15.out n)).2.2
            have f0 : ∀ w', Nw w15 w' → w'.cell? ⟨l10, j * 3, none⟩ = some (.int .i64 xt) := fun w' n => (P15.out.nw n).atL wc_len (by omega) HX.out 0 _ rfl
            have f1 : ∀ w', Nw w15 w' → w'.cell? ⟨l10, j * 3 + 1, none⟩ = some (.int .i64 xg) := fun w' n => (P15.out.nw n).atL wc_len (by omega) HX.out 1 _ rfl
            have f2 : ∀ w', Nw w15 w' → w'.cell? ⟨l10, j * 3 + 2, none⟩ = some (.int .i64 xs) := fun w' n => (P15.out.nw n).atL wc_len (by omega) HX.out 2 _ rfl
            refine wp_region_held (S := (fun w' => Nw w15 w')) (by kernel_rfl) ?_
            change wpAnyH _ _ _ _ _ _ _ _ (World.drew w15)
            refine held_seg' (l := [0, 1, 2, 3, 4, 5, 6, 7, 8, 9]) (fuel := 0) rfl (by kernel_rfl) (by kernel_rfl) (by simp only [List.filterMap_cons, List.filterMap_nil, List.getElem?_toArray, List.getElem?_cons_succ, List.getElem?_cons_zero]; rfl) (fun _ _ d _ _ h => by cases d <;> exact h) (gb_drew (Nw.refl w15)) ?_
            iterate 8 (refine wpYield_step rfl (fun K hK => ?_)
                       apply Exists.intro
                       refine ⟨fun w' hw' => ?_, ?_⟩
                       · (go_simp; try with_reducible rfl)
                       go_simp
                       refine hK _ ?_
                       clear hK K)
            refine wpYield_eq_wh rfl true _ _ _ rfl rfl ⟨xt, xg, xs⟩ ⟨xt, xg, xs⟩ rfl rfl false (by simp) ?_
            (refine wpYield_step rfl (fun K hK => ?_)
             apply Exists.intro
             refine ⟨fun w' hw' => ?_, ?_⟩
             · (go_simp; try with_reducible rfl)
             go_simp
             refine hK _ ?_
             clear hK K)
            refine wpYield_nil ?_
            refine wpAnyH_done (by kernel_rfl) ?_ _
            have d0 := k0 _ (gb_drew (Nw.refl w15)); have d1 := k1 _ (gb_drew (Nw.refl w15)); have d2 := k2 _ (gb_drew (Nw.refl w15))
            have S20 := Lib.hid (S15.out.more (gb_drew (Nw.refl w15))); have P20 := Lib.hid (P15.out.nw (gb_drew (Nw.refl w15))); have X20 := Lib.hid (Obj1.nw X15.out (gb_drew (Nw.refl w15)))
            generalize w15.drew = w20 at S20 P20 X20 d0 d1 d2 ⊢
            clear k0 k1 k2 f0 f1 f2
            clear S12 P12 S13 P13 S14 P14 S15 P15 X15
            by_cases ht : xt = 0
            · subst ht
              go_wp2
              exact ⟨⟨j + 1, hlj, by go_num, S20.out, P20.out⟩, by simp [intOf]; omega⟩
            · have bt : (xt == 0) = false := by simpa using ht
              have HH := Lib.hid (show look (heldOf qs) ⟨xt, xg, xs⟩ = some (j : Int) from hold_at ((dup_iff _ _).1 IQ.out.dup) HX.out ht)
              have HIN := Lib.hid (show (j : Int) ∈ inOf qs xg from in_has qs xg HX.out ht rfl _ (by rw [LQ.out]; exact hlj))
              clear ht
              go_wp2_with (first
                | (refine (in_any S21.out.rep xg (fun x hx => (IQ.out.ok x hx).1)).mono ?_; rintro e w22 ⟨A22, n22, c22, rfl, o22, n22⟩; have S22 := Lib.hid (S21.out.more n22); have P22 := Lib.hid (P21.out.nw n22); have X22 := Lib.hid (Obj1.nw X21.out n22); have G22 := Lib.hid (o22.more (Nat.zero_le _)); clear o22 n22; have hg := G22.out.len; have hg2 := inN_le qs xg qs.length; have hg3 : n22 ≤ 96 := (by have := LQ.out; unfold inOf at hg; rw [List.length_map] at hg; omega); clear hg2 hg; clear d0 d1 d2 e0 e1 e2)
                | (refine (holder_any S20.out.rep ⟨xt, xg, xs⟩).mono ?_; rintro e w21 ⟨rfl, n21⟩; have S21 := Lib.hid (S20.out.more n21); have P21 := Lib.hid (P20.out.nw n21); have X21 := Lib.hid (Obj1.nw X20.out n21); clear n21; rw [HH.out]; obtain ⟨e0, e1, e2⟩ := w3cells X21.out)
                )
              go_loopw [16, 18] (fun s t wr => ∃ (m : Nat) (q : Bool), m ≤ n22 ∧ t = .int .i64 m ∧ s = .bool q ∧ Hid (q = decide ((j : Int) ∈ (inOf qs xg).take m)) ∧ Nw w22 wr) (fun _ t _ => n22 - (intOf t).toNat)
              case atStart => exact ⟨0, false, by omega, rfl, rfl, Lib.hid (by simp), Nw.refl _⟩
              case round =>
                obtain ⟨m, q, hm, rfl, rfl, HQ, nw23⟩ := hrel
                have NW23 := Lib.hid nw23; clear nw23
                by_cases hlm : m < n22
                · obtain ⟨rb, ro, hA, hz, hcl⟩ := (G22.out.nw NW23.out).rd.atF (f := iv) hlm
                  subst hA
                  obtain ⟨y, hy⟩ : ∃ y, (inOf qs xg)[m] = y := ⟨_, rfl⟩
                  have HTK := Lib.hid (show (inOf qs xg).take (m + 1) = (inOf qs xg).take m ++ [y] from by rw [List.take_succ_eq_append_getElem hz, hy])
                  rw [hy] at hcl
                  clear hy hz
                  unfold iv at hcl
                  cases q with
                  | true =>
                    go_wp2
                    exact ⟨⟨m + 1, true, hlm, by go_num, rfl, Lib.hid (by rw [HTK.out]; have := HQ.out; symm at this; simp only [decide_eq_true_eq] at this; simp [this]), NW23.out⟩, by simp [intOf]; omega⟩
                  | false =>
                    by_cases hyj : y = (j : Int)
                    · subst hyj
                      go_wp2
                      exact ⟨⟨m + 1, true, hlm, by go_num, rfl, Lib.hid (by rw [HTK.out]; simp), NW23.out⟩, by simp [intOf]; omega⟩
                    · have by0 : (y == (j : Int)) = false := by simpa using hyj
                      have HYJ := Lib.hid hyj; clear hyj
                      go_wp2
                      exact ⟨⟨m + 1, false, hlm, by go_num, rfl, Lib.hid (by rw [HTK.out]; have := HQ.out; symm at this; simp only [decide_eq_false_iff_not] at this; have h2 := HYJ.out; simp [this]; omega), NW23.out⟩, by simp [intOf]; omega⟩
                · have hm' : m = n22 := by omega
                  subst hm'
                  have hq : q = true := by
                    rw [HQ.out, List.take_of_length_le (by have := G22.out.len; rw [List.length_map] at this; omega)]
                    exact decide_eq_true HIN.out
                  subst hq
                  go_wp2
                  exact ⟨⟨j + 1, hlj, by go_num, S22.out.more NW23.out, P22.out.nw NW23.out⟩, by simp [intOf]; omega⟩
          · have hj' : j = n10 := by omega
            subst hj'
            go_wp2
            exact ⟨⟨i + 1, by go_num, by omega, hlt1, _, S12.out, IQ.out, LQ.out⟩, by simp [intOf]; omega⟩
    · have hcases : (¬ i < len) ∨ (i < len ∧ i = 40) := by omega
      clear hlt
      rcases hcases with hlt1 | ⟨hlt1, rfl⟩
      all_goals
        go_wp2
        go_ret
        exact ⟨rfl, S5.out.nw⟩
end Go.Proofs.Ytfpllllglpjipaa

