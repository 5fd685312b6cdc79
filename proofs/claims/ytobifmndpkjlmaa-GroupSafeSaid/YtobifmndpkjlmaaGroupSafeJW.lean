/- The law GroupSafe, walked: a disk may be lost, or not. -/
import Derived.Test.YtobifmndpkjlmaaJL
set_option linter.unusedVariables false
set_option linter.unusedSimpArgs false
namespace Go.Proofs.Ytobifmndpkjlmaa
open Go.RowKit Go.BW

set_option maxHeartbeats 16000000 in
theorem gsafe_all {w : World} (A0 : Option Addr) (n0 c0 : Nat) (gs0 : List Gp) (h0 : InL w gc 3 (GIn w) A0 n0 c0 gs0) (A1 : Option Addr) (n1 c1 : Nat) (zs : List Int) (h1 : InI w A1 n1 c1 zs) (lost : Int) (_hl : -9223372036854775808 ≤ lost ∧ lost ≤ 9223372036854775807) :
    Calls Try.prog 9 #[.slice A0 n0 c0, .slice A1 n1 c1, .int .i64 lost] w (Ret (.bool true) w) := by
  obtain ⟨hgi, hn0⟩ := InL.gsi h0
  obtain ⟨hrz, _, hcm1, hlz, _⟩ := h1
  have hn1 : n1 ≤ 9223372036854775807 := by unfold maxLen at hcm1; omega
  have SH := Lib.hid (fun w' => shown_any w')
  have FW := Lib.hid (show ∀ w', Nw w w' → Calls Try.prog 14 #[.slice A0 n0 c0] w' (FewPost gs0 w') from fun w' hw => few_any (hgi.nw hw (Nat.le_refl _)) hw.size hn0)
  have SM := Lib.hid (show ∀ w', Nw w w' → Calls Try.prog 15 #[.slice A1 n1 c1] w' (RetOwn 3 1 ((smallP zs).map iv) w') from fun w' hw => small_any (hrz.nw hw (Nat.le_refl _)) hw.size hn1)
  unfold Ret at SH
  unfold RetOwn at SM
  unfold FewPost at FW
  clear hgi hn0 hrz hcm1 hlz hn1 h0
  go_enter Try.func9, Try.ntmps9
  go_upto_region 5 with (first
    | ((with_reducible refine (FW.out _ N3.out).mono ?_); rintro e w4 ⟨A4, n4, c4, gs4, rfl, o4, g4, k4, n34⟩)
    | ((with_reducible refine (SM.out _ N2.out).mono ?_); rintro e w3 ⟨A3, n3, c3, rfl, o3, n23⟩; have N3 := Lib.hid (gb_trans N2.out n23))
    | ((with_reducible refine (FW.out _ n1').mono ?_); rintro e w2 ⟨A2, n2, c2, gs2, rfl, o2, g2, k2, n12⟩; have N2 := Lib.hid (gb_trans n1' n12))
    | ((with_reducible refine (SH.out _).mono ?_); rintro e w1 ⟨rfl, n1'⟩))
  have hrl : (smallP zs).length = n3 := by have := o3.len; simpa using this
  have hn8 : n3 ≤ 8 := by rw [← hrl]; exact smallP_len zs
  obtain ⟨ga, ha16, hac⟩ := few_gsr o2 g2 k2
  obtain ⟨gb, hb16, hbc⟩ := few_gsr o4 g4 k4
  have N24 := gb_trans n23 n34
  have GA := Lib.hid ((ga.nw N24 (Nat.le_refl _)).more N24.size)
  have GB := Lib.hid gb
  have RS := Lib.hid (show Rd w4 w4.heap.size 1 A3 n3 ((smallP zs).map iv) from ((o3.nw n34).rd))
  have N4 := Lib.hid (gb_trans N3.out n34)
  have hes : gs4.map (·.es) = gs2.map (·.es) := key_es (k4.trans k2.symm)
  have hM : ∀ r ∈ smallP zs, r ≤ 1000000 := fun r hr => Int.le_trans (smallP_le zs r hr) (by decide)
  have C1 := Lib.hid (show ∀ w', Nw w4 w' → Calls Try.prog 19 #[.slice A4 n4 c4, .slice A3 n3 c3, .int .i64 lost] w' (Ret (.bool (hallB gs2 (smallP zs) lost)) w') from fun w' hw => by
    rw [← hallB_es hes]
    exact safe_hall (GB.out.nw hw (Nat.le_refl _)) (RS.out.nw hw (Nat.le_refl _)) hw.size (by omega) (by omega) hM lost)
  have C2 := Lib.hid (show ∀ w', Nw w4 w' → Calls Try.prog 21 #[.slice A2 n2 c2, .slice A3 n3 c3, .int .i64 lost] w' (Ret (.bool (hallB gs2 (smallP zs) lost)) w') from fun w' hw =>
    rsafe_any (GA.out.nw hw (Nat.le_refl _)) (RS.out.nw hw (Nat.le_refl _)) hw.size hn8 (by omega) hM lost)
  have C3 := Lib.hid (show ∀ w', Nw w4 w' → Calls Try.prog 22 #[.slice A4 n4 c4, .slice A3 n3 c3] w' (Ret (.bool (allB gs2 (smallP zs))) w') from fun w' hw => by
    rw [← allB_es hes]
    exact allsafe_any (GB.out.nw hw (Nat.le_refl _)) (RS.out.nw hw (Nat.le_refl _)) hw.size (by omega) (by omega) hM)
  have C4 := Lib.hid (show ∀ w', Nw w4 w' → Calls Try.prog 23 #[.slice A2 n2 c2, .slice A3 n3 c3] w' (Ret (.bool (allB gs2 (smallP zs))) w') from fun w' hw =>
    rallsafe_any (GA.out.nw hw (Nat.le_refl _)) (RS.out.nw hw (Nat.le_refl _)) hw.size hn8 (by omega) hM)
  have C5 := Lib.hid (show ∀ w', Nw w4 w' → Calls Try.prog 20 #[.slice A4 n4 c4, .int .i64 lost] w' (fun e w'' => ∃ v : Nat, e = .returned (.int .i64 v) ∧ SpareIs (allE gs2) lost v ∧ Nw w' w'') from fun w' hw =>
    (spare_any (GB.out.nw hw (Nat.le_refl _)) hw.size (by omega) lost).mono fun e w'' ⟨v, h1, h2, _, h4⟩ => ⟨v, h1, by rw [← allE_es hes]; exact h2, h4⟩)
  have C6 := Lib.hid (show ∀ w', Nw w4 w' → Calls Try.prog 24 #[.slice A2 n2 c2, .int .i64 lost] w' (fun e w'' => ∃ v : Nat, e = .returned (.int .i64 v) ∧ SpareIs (allE gs2) lost v ∧ w' = w'') from fun w' hw =>
    rspare_any (GA.out.nw hw (Nat.le_refl _)) (by omega) lost)
  have HES := Lib.hid hes
  have HNU := Lib.hid (show ∀ w' base A' n' c', Nw w4 w' → Own w' base 3 1 A' n' c' ((smallP zs).map iv) → Calls Try.prog 13 #[.slice A3 n3 c3, .slice A' n' c'] w' (Ret (.bool true) w') from fun w' base A' n' c' hw ho => by
    have := numbers_any (c := c3) (c' := c') (RS.out.nw hw (Nat.le_refl _)) ho.rd (by omega)
    rwa [show numB (smallP zs) (smallP zs) = true from numB_iff.2 rfl] at this)
  obtain ⟨q1, hq1⟩ : ∃ q, hallB gs2 (smallP zs) lost = q := ⟨_, rfl⟩
  obtain ⟨q2, hq2⟩ : ∃ q, allB gs2 (smallP zs) = q := ⟨_, rfl⟩
  rw [hq1] at C1 C2
  rw [hq2] at C3 C4
  unfold Ret at C1 C2 C3 C4 HNU
  have e1 : (q1 != q1) = false := by simp
  have e2 : (q2 != q2) = false := by simp
  clear ga gb N24 hq1 hq2 hM hes o2 g2 k2 o3 o4 g4 k4 n34 n12 n23 n1' FW SH hrl
  go_wp2_with (first
    | ((with_reducible refine (C6.out _ (gb_trans m5 (gb_trans m6 (gb_trans m7 (gb_trans m8 m9))))).mono ?_); rintro e w10 ⟨v', rfl, hv', rfl⟩; have hvv := hv.uniq hv'; subst hvv; have e3 : ((v : Int) != (v : Int)) = false := by simp)
    | ((with_reducible refine (C5.out _ (gb_trans m5 (gb_trans m6 (gb_trans m7 m8)))).mono ?_); rintro e w9 ⟨v, rfl, hv, m9⟩)
    | ((with_reducible refine (C4.out _ (gb_trans m5 (gb_trans m6 m7))).mono ?_); rintro e w8 ⟨rfl, m8⟩)
    | ((with_reducible refine (C3.out _ (gb_trans m5 m6)).mono ?_); rintro e w7 ⟨rfl, m7⟩)
    | ((with_reducible refine (C2.out _ m5).mono ?_); rintro e w6 ⟨rfl, m6⟩)
    | ((with_reducible refine (C1.out _ (Nw.refl _)).mono ?_); rintro e w5 ⟨rfl, m5⟩))
  have N49 := gb_trans m5 (gb_trans m6 (gb_trans m7 (gb_trans m8 m9)))
  have GA9 := Lib.hid (GA.out.nw N49 (Nat.le_refl _)); have GB9 := Lib.hid (GB.out.nw N49 (Nat.le_refl _))
  have B9 := Lib.hid N49.size
  have N9 := Lib.hid (gb_trans N4.out N49)
  have HNU2 := Lib.hid (show ∀ w', Nw w9 w' → Nw w4 w' from fun w' hw => gb_trans N49 hw)
  clear N49 m5 m6 m7 m8 m9 e1 e2 e3 hv hv' C1 C2 C3 C4 C5 C6
  go_loopw [11] (fun v wr => ∃ i : Nat, v = .int .i64 i ∧ i ≤ n2 ∧ Nw w9 wr) (fun v _ => n2 - (intOf v).toNat)
  case atStart => exact ⟨0, rfl, Nat.zero_le _, Nw.refl _⟩
  case round =>
    obtain ⟨i, rfl, hi, hnw⟩ := hrel
    obtain ⟨wa, rfl⟩ : ∃ q, q = wr := ⟨_, rfl⟩
    by_cases hlt : i < n2
    · have hltz : (i : Int) < (n2 : Int) := by omega
      obtain ⟨x, hx⟩ : ∃ x, gs2[i]? = some x := ⟨_, List.getElem?_eq_getElem (by have := GA9.out.len; omega)⟩
      obtain ⟨y, hy, hxy⟩ : ∃ y, gs4[i]? = some y ∧ x.es = y.es := by
        have h := congrArg (fun l => l[i]?) HES.out
        simp only [List.getElem?_map, hx, Option.map_some] at h
        rcases hg : gs4[i]? with _ | y
        · rw [hg] at h; cases h
        · rw [hg] at h; exact ⟨y, rfl, by simpa using h.symm⟩
      have hi4 : i < n4 := by have h1 := (List.getElem?_eq_some_iff.1 hy).1; have := GB9.out.len; omega
      have hi4z : (i : Int) < (n4 : Int) := by omega
      have GX := Lib.hid (show ∀ w', Nw w9 w' → GsR w' w4.heap.size A2 n2 gs2 ∧ GsR w' w4.heap.size A4 n4 gs4 from fun w' hw => ⟨GA9.out.nw hw B9.out, GB9.out.nw hw B9.out⟩)
      obtain ⟨b, off, hA, hc⟩ := gcells (GX.out wa hnw).1 hx
      obtain ⟨b4, off4, hA4, hc4⟩ := gcells (GX.out wa hnw).2 hy
      subst hA; subst hA4
      have hok := (GX.out wa hnw).1.all x (List.mem_of_getElem? hx)
      have hok4 := (GX.out wa hnw).2.all y (List.mem_of_getElem? hy)
      have HCX := Lib.hid (show ∀ w', Nw wa w' → w'.cell? ⟨b, off + i * 3 + 2, none⟩ = some (.slice x.A x.n x.c) ∧ w'.cell? ⟨b4, off4 + i * 3 + 2, none⟩ = some (.slice y.A y.n y.c) from fun w' hw => ⟨cell_nw hc hw, cell_nw hc4 hw⟩)
      have hBa : w4.heap.size ≤ wa.heap.size := Nat.le_trans B9.out hnw.size
      have HOX := Lib.hid (show ∀ w', Nw wa w' → GOk w' w4.heap.size x ∧ GOk w' w4.heap.size y from fun w' hw => ⟨hok.nw hw hBa, hok4.nw hw hBa⟩)
      obtain ⟨xi, xk, xA, xn, xc, xe⟩ := x
      obtain ⟨yi, yk, yA, yn, yc, ye⟩ := y
      simp only at hxy HCX
      subst hxy
      have hxn : xe.length = xn := hok.len
      have hyn : xe.length = yn := hok4.len
      have hxm : xn ≤ 1000000 := hok.nm
      have hxy : yn = xn := by omega
      subst hxy
      clear hx hy hc hc4 hok hok4 hyn
      have HXN := Lib.hid hxn
      clear hxn
      go_wp2_with fail
      go_loopw [12] (fun v wr => ∃ j : Nat, v = .int .i64 j ∧ j ≤ yn ∧ Nw wa wr) (fun v _ => yn - (intOf v).toNat)
      case atStart => exact ⟨0, rfl, Nat.zero_le _, Nw.refl _⟩
      case round =>
        obtain ⟨j, rfl, hj, hnw2⟩ := hrel
        have hcc := HCX.out wr hnw2
        obtain ⟨hc1, hc2⟩ := hcc
        by_cases hl2 : j < yn
        · have hl2z : (j : Int) < (yn : Int) := by omega
          obtain ⟨e, he⟩ : ∃ e, xe[j]? = some e := ⟨_, List.getElem?_eq_getElem (by rw [HXN.out]; exact hl2)⟩
          obtain ⟨_, eb, eo, e2, hE, _, he2, _⟩ := (HOX.out wr hnw2).1.rd.atL ec_len (by decide) hl2
          obtain ⟨_, eb4, eo4, e4, hE4, _, he4, _⟩ := (HOX.out wr hnw2).2.rd.atL ec_len (by decide) hl2
          simp only at hE hE4
          subst hE; subst hE4
          have HCE := Lib.hid (show ∀ w', Nw wr w' → (∀ k u, (ec e)[k]? = some u → w'.cell? ⟨eb, eo + j * 2 + k, none⟩ = some u) ∧ (∀ k u, (ec e)[k]? = some u → w'.cell? ⟨eb4, eo4 + j * 2 + k, none⟩ = some u) from fun w' hw => by
            obtain ⟨_, p1, p2, p3, p4, _, p5, p6⟩ := (HOX.out w' (gb_trans hnw2 hw)).1.rd.atL ec_len (by decide) hl2
            obtain ⟨_, r1, r2, r3, r4, _, r5, r6⟩ := (HOX.out w' (gb_trans hnw2 hw)).2.rd.atL ec_len (by decide) hl2
            simp only at p4 r4 p5 r5
            injection p4 with p4; injection p4 with p7 p8; subst p7; subst p8
            injection r4 with r4; injection r4 with r7 r8; subst r7; subst r8
            have h1 : p3 = e := by rw [he] at p5; injection p5 with p5; exact p5.symm
            have h2 : r3 = e := by rw [he] at r5; injection r5 with r5; exact r5.symm
            subst h1; subst h2
            exact ⟨p6, r6⟩)
          have HC3 := Lib.hid (show ∀ w', Nw wr w' → w'.cell? ⟨b, off + i * 3 + 2, none⟩ = some (.slice (some ⟨eb, eo, none⟩) yn xc) ∧ w'.cell? ⟨b4, off4 + i * 3 + 2, none⟩ = some (.slice (some ⟨eb4, eo4, none⟩) yn yc) from fun w' hw => HCX.out w' (gb_trans hnw2 hw))
          clear he he2 he4
          go_wp2_with fail
          refine wp_region_held (S := (fun w' => (w'.cell? ⟨b, off + i * 3 + 2, none⟩ = some (.slice (some ⟨eb, eo, none⟩) yn xc) ∧ w'.cell? ⟨b4, off4 + i * 3 + 2, none⟩ = some (.slice (some ⟨eb4, eo4, none⟩) yn yc)) ∧ Nw wr w')) (by kernel_rfl) ?_
          change wpAnyH _ _ _ _ _ _ _ _ (World.drew wr)
          refine held_seg' (l := [0, 1, 2, 3, 4, 5, 6, 7, 8, 9, 10, 11, 12, 13, 14, 15, 16]) (fuel := 0) rfl (by kernel_rfl) (by kernel_rfl) (by simp only [List.filterMap_cons, List.filterMap_nil, List.getElem?_toArray, List.getElem?_cons_succ, List.getElem?_cons_zero]; rfl) (fun _ _ d _ _ h => by cases d <;> exact h) (And.intro (HC3.out _ (gb_drew (Nw.refl wr))) (gb_drew (Nw.refl wr))) ?_
          iterate 7 (refine wpYield_step rfl (fun K hK => ?_)
                     apply Exists.intro
                     refine ⟨fun w' hw' => ?_, ?_⟩
                     · (go_simp; try with_reducible rfl)
                     go_simp
                     refine hK _ ?_
                     clear hK K)
          refine wpYield_load_agg 39 _ rfl rfl rfl (ec e) (fun w' hw' => (HCE.out w' hw'.2).2) _ Try.underlying39 rfl (by rw [ec_len]; kernel_rfl) ?_
          iterate 7 (refine wpYield_step rfl (fun K hK => ?_)
                     apply Exists.intro
                     refine ⟨fun w' hw' => ?_, ?_⟩
                     · (go_simp; try with_reducible rfl)
                     go_simp
                     refine hK _ ?_
                     clear hK K)
          refine wpYield_load_agg 39 _ rfl rfl rfl (ec e) (fun w' hw' => (HCE.out w' hw'.2).1) _ Try.underlying39 rfl (by rw [ec_len]; kernel_rfl) ?_
          refine wpYield_neq_et rfl _ _ _ rfl rfl e rfl rfl ?_
          refine wpYield_nil ?_
          refine wpAnyH_done (by kernel_rfl) ?_ _
          go_wp2_with fail
          go_roundw
          case rel => exact ⟨j + 1, by go_num, by omega, gb_drew hnw2⟩
          case measure => simp only [intOf]; omega
        · go_wp2_with fail
          go_roundw
          case rel => exact ⟨i + 1, by go_num, by omega, gb_trans hnw hnw2⟩
          case measure => simp only [intOf]; omega
    · have HRS := Lib.hid (fun w' (hw : Nw w9 w') => SM.out w' (gb_trans N9.out hw))
      clear hi
      go_wp2_with (first
        | ((with_reducible refine (HNU.out _ _ _ _ _ (HNU2.out _ (gb_trans hnw m10)) o10).mono ?_); rintro e w11 ⟨rfl, m11⟩)
        | ((with_reducible refine (SM.out _ (gb_trans N9.out hnw)).mono ?_); rintro e w10 ⟨A10, n10, c10, rfl, o10, m10⟩))
      go_ret
      exact ⟨rfl, gb_trans N9.out (gb_trans hnw (gb_trans m10 m11))⟩
end Go.Proofs.Ytobifmndpkjlmaa

