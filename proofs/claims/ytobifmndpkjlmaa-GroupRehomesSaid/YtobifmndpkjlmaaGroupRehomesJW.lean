/- The law GroupRehomes, walked: where it is safe, a rebuild never runs into a corner. -/
import Derived.Test.YtobifmndpkjlmaaJN
import Derived.Test.YtobifmndpkjlmaaJO
import Derived.Test.YtobifmndpkjlmaaGroupMovesJW
set_option linter.unusedVariables false
set_option linter.unusedSimpArgs false
namespace Go.Proofs.Ytobifmndpkjlmaa
open Go.RowKit Go.BW

theorem needs_take {gs : List Gp} {lost : Int} {i : Nat} {x : Gp} (hx : gs[i]? = some x) : (needs (gs.take (i + 1)) lost).length = (needs (gs.take i) lost).length + if hasD x lost then 1 else 0 := by
  unfold needs
  rw [filter_snoc _ hx, List.length_append]
  cases hasD x lost <;> rfl
theorem ext_at {w : World} {base n c : Nat} {b : Nat} {es : List Et} (h : Own w base 39 2 (some ⟨b, 0, none⟩) n c (fl ec es)) {j : Nat} {e : Et} (he : es[j]? = some e) :
    w.cell? ⟨b, j * 2, none⟩ = some (.int .i64 e.dk) ∧ w.frozen? ⟨b, j * 2, none⟩ = false ∧
    (∀ d : Int, Own (w.setCell ⟨b, j * 2, none⟩ (.int .i64 d)) base 39 2 (some ⟨b, 0, none⟩) n c (fl ec (es.set j ⟨d, e.pl⟩)) ∧ w.grownBy (w.setCell ⟨b, j * 2, none⟩ (.int .i64 d)) (some b)) := by
  have hjn : j < n := by have h1 := (List.getElem?_eq_some_iff.1 he).1; have := h.lenL ec_len (by decide); omega
  obtain ⟨_, b', o', e', hA, _, he', hc⟩ := h.rd.atL ec_len (by decide) hjn
  injection hA with hA; injection hA with e1 e2; subst e1; subst e2
  have : e' = e := by rw [he] at he'; injection he' with he'; exact he'.symm
  subst this
  have hc0 := hc 0 _ rfl
  simp only [Nat.zero_add, Nat.add_zero] at hc0
  refine ⟨hc0, ?_, fun d => ?_⟩
  · obtain ⟨cur, ho⟩ := h.obj
    exact ho.frozen _
  · obtain ⟨h1, h2⟩ := h.set (j * 2) (.int .i64 d)
    have e2 := fl_set1 ec_len (u := .int .i64 d) (x := e') (y := ⟨d, e'.pl⟩) (j := 0) (by decide) (by simp [ec]) es j he
    rw [Nat.add_zero] at e2
    rw [e2] at h1
    exact ⟨h1, h2⟩
theorem moveE_take {lost d : Int} {es : List Et} {j : Nat} {e : Et} (he : es[j]? = some e) (es' : List Et) (h : es' = moveE lost d (es.take j) ++ es.drop j) :
    es'[j]? = some e ∧ (e.dk = lost → es'.set j ⟨d, e.pl⟩ = moveE lost d (es.take (j + 1)) ++ es.drop (j + 1)) ∧ (e.dk ≠ lost → es' = moveE lost d (es.take (j + 1)) ++ es.drop (j + 1)) := by
  obtain ⟨hj, rfl⟩ := List.getElem?_eq_some_iff.1 he
  have hl : (moveE lost d (es.take j)).length = j := by unfold moveE; simp; omega
  have hm : moveE lost d (es.take (j + 1)) = moveE lost d (es.take j) ++ moveE lost d [es[j]] := by
    unfold moveE; rw [List.take_succ_eq_append_getElem hj, List.map_append]
  subst h
  rw [List.drop_eq_getElem_cons hj]
  refine ⟨?_, fun h => ?_, fun h => ?_⟩
  · rw [List.getElem?_append_right (by omega), hl, Nat.sub_self]; rfl
  · rw [List.set_append_right _ _ (by omega), hl, Nat.sub_self, hm]
    rw [List.append_assoc]
    congr 1
    have e1 : es.drop j = es[j] :: es.drop (j + 1) := List.drop_eq_getElem_cons hj
    first | rw [e1] | skip
    unfold moveE
    simp [h]
    first | done | rw [e1] | skip
    first | done | rfl
  · rw [hm]
    unfold moveE
    simp [h]
set_option maxRecDepth 100000 in
set_option maxHeartbeats 32000000 in
theorem grehomes_all {w : World} (A0 : Option Addr) (n0 c0 : Nat) (gs0 : List Gp) (h0 : InL w gc 3 (GIn w) A0 n0 c0 gs0) (A1 : Option Addr) (n1 c1 : Nat) (zs : List Int) (h1 : InI w A1 n1 c1 zs) (lost : Int) (_hl : -9223372036854775808 ≤ lost ∧ lost ≤ 9223372036854775807) :
    Calls Try.prog 5 #[.slice A0 n0 c0, .slice A1 n1 c1, .int .i64 lost] w (Ret (.bool true) w) := by
  obtain ⟨hgi, hn0⟩ := InL.gsi h0
  obtain ⟨hrz, _, hcm1, hlz, hzb⟩ := h1
  have hn1 : n1 ≤ 9223372036854775807 := by unfold maxLen at hcm1; omega
  have SH := Lib.hid (fun w' => shown_any w')
  have FW := Lib.hid (show ∀ w', Nw w w' → Calls Try.prog 14 #[.slice A0 n0 c0] w' (FewPost gs0 w') from fun w' hw => few_any (hgi.nw hw (Nat.le_refl _)) hw.size hn0)
  have SM := Lib.hid (show ∀ w', Nw w w' → Calls Try.prog 15 #[.slice A1 n1 c1] w' (RetOwn 3 1 ((smallP zs).map iv) w') from fun w' hw => small_any (hrz.nw hw (Nat.le_refl _)) hw.size hn1)
  have HLO := Lib.hid (small_lo hzb)
  unfold Ret at SH
  unfold RetOwn at SM
  unfold FewPost at FW
  clear hgi hn0 hrz hcm1 hlz hn1 h0 hzb
  go_enter Try.func5, Try.ntmps5
  go_upto_region 4 with (first
    | ((with_reducible refine (SM.out _ N2.out).mono ?_); rintro e w3 ⟨A3, n3, c3, rfl, o3, n23⟩; have N3 := Lib.hid (gb_trans N2.out n23))
    | ((with_reducible refine (FW.out _ n1').mono ?_); rintro e w2 ⟨A2, n2, c2, gs2, rfl, o2, g2, k2, n12⟩; have N2 := Lib.hid (gb_trans n1' n12))
    | ((with_reducible refine (SH.out _).mono ?_); rintro e w1 ⟨rfl, n1'⟩))
  have hrl : (smallP zs).length = n3 := by have := o3.len; simpa using this
  have hn8 : n3 ≤ 8 := by rw [← hrl]; exact smallP_len zs
  obtain ⟨ga, ha16, hac⟩ := few_gsr o2 g2 k2
  have GL := Lib.hid ga.len
  have OG := Lib.hid ((o2.nw n23).more n1'.size)
  have OE := Lib.hid (show GsO w3 w.heap.size gs2 from ⟨fun g hg => ((g2.own g hg).nw n23).more n1'.size, g2.apart⟩)
  have O3 := Lib.hid (o3.more N2.out.size)
  have E6 := Lib.hid (few_es6 k2)
  have GA := Lib.hid ((ga.nw n23 (Nat.le_refl _)).more n23.size)
  have HM := Lib.hid (show ∀ r ∈ smallP zs, r ≤ 1000000 from fun r hr => Int.le_trans (smallP_le zs r hr) (by decide))
  have HRL := Lib.hid hrl
  obtain ⟨rs0, hrs⟩ : ∃ rs, smallP zs = rs := ⟨_, rfl⟩
  rw [hrs] at O3 HM HRL HLO
  clear ga o2 g2 k2 o3 n12 n23 n1' SH FW SM hrl hrs N2
  go_wp2_with fail
  go_loopw [10, 11] (fun s v wr => ∃ i ne : Nat, v = .int .i64 i ∧ s = .int .i64 ne ∧ i ≤ n2 ∧ ne ≤ i ∧ Hid (ne = (needs (gs2.take i) lost).length) ∧ Nw w3 wr) (fun _ v _ => n2 - (intOf v).toNat)
  case atStart => exact ⟨0, 0, rfl, rfl, Nat.zero_le _, Nat.le_refl _, Lib.hid rfl, Nw.refl _⟩
  case round =>
    obtain ⟨i, ne, rfl, rfl, hi, hni, hne, hnw⟩ := hrel
    by_cases hlt : i < n2
    · have hltz : (i : Int) < (n2 : Int) := by omega
      have HGi := Lib.hid (GA.out.nw hnw (Nat.le_refl _))
      obtain ⟨_, b, off, y, hA, _, hy, hc⟩ := HGi.out.rd.atL gc_len (by decide) hlt
      subst hA
      have HC := Lib.hid hc
      have HH := Lib.hid (show Calls Try.prog 18 #[.agg (gc y).toArray, .int .i64 lost] wr (Ret (.bool (hasD y lost)) wr) from rhas_any (HGi.out.all y (List.mem_of_getElem? hy)) hnw.size lost)
      have HT := Lib.hid (needs_take (lost := lost) hy)
      obtain ⟨q, hq⟩ : ∃ q, hasD y lost = q := ⟨_, rfl⟩
      rw [hq] at HH HT
      unfold Ret at HH
      clear hy hc hq
      rcases q with _ | _
      · go_wp2_with (first
          | ((with_reducible refine HH.out.mono ?_); rintro e w2' ⟨rfl, p2⟩)
          | ((with_reducible refine wpList_load_agg 37 _ (by with_unfolding_all exact rfl) (by with_unfolding_all exact rfl) (by with_unfolding_all exact rfl) (gc y) HC.out _ Try.underlying37 (by with_unfolding_all exact rfl) (by rw [gc_len]; kernel_rfl) ?_)))
        go_roundw
        case rel => exact ⟨i + 1, ne, by go_num, rfl, by omega, by omega, Lib.hid (by rw [HT.out, hne.out]; rfl), gb_trans hnw p2⟩
        case measure => simp only [intOf]; omega
      · go_wp2_with (first
          | ((with_reducible refine HH.out.mono ?_); rintro e w2' ⟨rfl, p2⟩)
          | ((with_reducible refine wpList_load_agg 37 _ (by with_unfolding_all exact rfl) (by with_unfolding_all exact rfl) (by with_unfolding_all exact rfl) (gc y) HC.out _ Try.underlying37 (by with_unfolding_all exact rfl) (by rw [gc_len]; kernel_rfl) ?_)))
        go_roundw
        case rel => exact ⟨i + 1, ne + 1, by go_num, by go_num, by omega, by omega, Lib.hid (by rw [HT.out, hne.out]; rfl), gb_trans hnw p2⟩
        case measure => simp only [intOf]; omega
    · have HNE := Lib.hid (show ne = (needs gs2 lost).length by have := hne.out; rwa [List.take_of_length_le (by rw [GL.out]; omega)] at this)
      have HS := Lib.hid (show Calls Try.prog 19 #[.slice A2 n2 c2, .slice A3 n3 c3, .int .i64 lost] wr (Ret (.bool (hallB gs2 rs0 lost)) wr) from
        safe_hall ((GA.out.nw hnw (Nat.le_refl _)).more hnw.size) (O3.out.nw hnw).rd (Nat.le_refl _) (by omega) (by omega) HM.out lost)
      have HRD := Lib.hid ((O3.out.nw hnw))
      have HGW := Lib.hid ((GA.out.nw hnw (Nat.le_refl _)).more hnw.size)
      have NN := Lib.hid (gb_trans N3.out hnw)
      obtain ⟨wb, rfl⟩ : ∃ q, q = wr := ⟨_, rfl⟩
      have hMV := (move_any (c := c3) stable_small HGW.out hac HRD.out.rd (Nat.le_refl _) (by omega) (by omega) (by omega) HM.out HLO.out lost)
      rcases hq : hallB gs2 rs0 lost with _ | _
      · rw [hq] at HS
        have hnn : needs gs2 lost ≠ [] := fun h => by
          have : hallB gs2 rs0 lost = true := (hall_iff _ _ _).2 (by rw [h]; exact trivial)
          rw [hq] at this; cases this
        have hn0' : 0 < ne := by
          have h1 := HNE.out
          rcases hnl : needs gs2 lost with _ | ⟨a, l⟩
          · exact absurd hnl hnn
          · rw [hnl] at h1; simp at h1; omega
        have HMV := Lib.hid (show Calls Try.prog 16 #[.slice A2 n2 c2, .slice A3 n3 c3, .int .i64 lost] wb (fun e w' => e = .returned (.tuple #[.int .i64 0, .int .i64 0, .bool false]) ∧ Nw wb w') from hMV.mono fun e w' ⟨r, h1, h2, h3⟩ => by
          rcases r with _ | ⟨i', d'⟩
          · exact ⟨h1, h3⟩
          · exfalso
            have := (hall_iff gs2 rs0 lost).2 (move_safe h2)
            rw [hq] at this; cases this)
        have hn0z : (0 : Int) < (ne : Int) := by omega
        unfold Ret at HS
        have HMP := Lib.hid (show ∀ w', Nw wb w' → Calls Try.prog 16 #[.slice A2 n2 c2, .slice A3 n3 c3, .int .i64 lost] w' (fun e w'' => e = .returned (.tuple #[.int .i64 0, .int .i64 0, .bool false]) ∧ Nw w' w'') from fun w' hw =>
          (move_any (c := c3) stable_small ((HGW.out.nw hw (Nat.le_refl _)).more hw.size) hac (HRD.out.nw hw).rd (Nat.le_refl _) (by omega) (by omega) (by omega) HM.out HLO.out lost).mono fun e w'' ⟨r, h1, h2, h3⟩ => by
            rcases r with _ | ⟨i', d'⟩
            · exact ⟨h1, h3⟩
            · exfalso
              have := (hall_iff gs2 rs0 lost).2 (move_safe h2)
              rw [hq] at this; cases this)
        clear hq hnn hMV hne HMV
        go_wp2_with (first
          | ((with_reducible refine (HMP.out _ m4).mono ?_); rintro e w5 ⟨rfl, m5⟩)
          | ((with_reducible refine HS.out.mono ?_); rintro e w4 ⟨rfl, m4⟩))
        go_ret
        exact ⟨by first | rfl | simp, gb_trans NN.out (gb_trans m4 m5)⟩
      · rw [hq] at HS
        have HMT := Lib.hid ((hall_iff _ _ _).1 hq)
        unfold Ret at HS
        clear hq hMV hne
        go_wp2_with ((with_reducible refine HS.out.mono ?_); rintro e w4 ⟨rfl, m4⟩)
        have NN4 := Lib.hid (gb_trans NN.out m4)
        have OG4 := Lib.hid (OG.out.nw (gb_trans hnw m4))
        have OE4 := Lib.hid (OE.out.nw (gb_trans hnw m4))
        have O34 := Lib.hid (O3.out.nw (gb_trans hnw m4))
        clear m4
        go_loopw [10] (fun s v => ∃ (ne : Nat) (gs : List Gp) (rs : List Int), s = .int .i64 ne ∧ ne ≤ n2 ∧ Hid (ne = (needs gs lost).length) ∧ Hid (Mt (lks (needs gs lost)) rs) ∧ Hid (Own v w.heap.size 37 3 A2 n2 c2 (fl gc gs)) ∧ Hid (GsO v w.heap.size gs) ∧
          Hid (Own v w.heap.size 3 1 A3 n3 c3 (rs.map iv)) ∧ Hid (rs.length = n3 ∧ (∀ r ∈ rs, r ≤ 1000000) ∧ ∀ r ∈ rs, -9223372036854775808 ≤ r) ∧ Hid (∀ g ∈ gs, g.n ≤ 1000000) ∧ Nw w v) (fun s _ => (intOf s).toNat)
        case atStart => exact ⟨ne, gs2, rs0, rfl, by omega, HNE, HMT, OG4, OE4, O34, Lib.hid ⟨HRL.out, HM.out, HLO.out⟩, Lib.hid (fun g hg => by
            have h1 := (OE4.out.own g hg).lenL ec_len (by decide)
            have h2 := E6.out g hg
            omega), NN4.out⟩
        case round =>
          obtain ⟨ne, gs, rs, rfl, hne2, hnl, hmt, hog, hoe, hor, hrb, hgn, hnw5⟩ := hrel
          obtain ⟨wc, rfl⟩ : ∃ q, q = wr := ⟨_, rfl⟩
          have HGR := Lib.hid (show GsR wc wc.heap.size A2 n2 gs from hoe.out.gsr hog.out hgn.out)
          have HMA := Lib.hid (move_any (c := c3) stable_small HGR.out hac hor.out.rd (Nat.le_refl _) (by omega) (by omega) (by omega) hrb.out.2.1 hrb.out.2.2 lost)
          unfold MovePost at HMA
          rcases Nat.eq_zero_or_pos ne with hz | hz
          · subst hz
            have hnil : needs gs lost = [] := List.eq_nil_of_length_eq_zero hnl.out.symm
            have HMZ := Lib.hid (show Calls Try.prog 16 #[.slice A2 n2 c2, .slice A3 n3 c3, .int .i64 lost] wc (fun e w' => e = .returned (.tuple #[.int .i64 0, .int .i64 0, .bool false]) ∧ Nw wc w') from HMA.out.mono fun e w' ⟨r, h1, h2, h3⟩ => by
              rw [move_none h2 hnil] at h1
              exact ⟨h1, h3⟩)
            clear hnil
            go_wp2_with ((with_reducible refine HMZ.out.mono ?_); rintro e w5 ⟨rfl, m5⟩)
            go_ret
            exact ⟨by first | rfl | simp, gb_trans hnw5 m5⟩
          · have hz0 : (0 : Int) < (ne : Int) := by omega
            have hnn : needs gs lost ≠ [] := fun h => by have := hnl.out; rw [h] at this; simp at this; omega
            have HMS := Lib.hid (show Calls Try.prog 16 #[.slice A2 n2 c2, .slice A3 n3 c3, .int .i64 lost] wc (fun e w' => ∃ (i d : Nat) (x : Gp), e = .returned (.tuple #[.int .i64 (i : Int), .int .i64 (d : Int), .bool true]) ∧
                (gs[i]? = some x ∧ d < rs.length ∧ 0 < rs.getD d 0 ∧ hasD x (d : Int) = false ∧ hasD x lost = true ∧ (gs.take i).any (fun g => hasD g lost) = false ∧ Mt (lks (needs (gs.drop (i + 1)) lost)) (lessAt rs d)) ∧ Nw wc w') from HMA.out.mono fun e w' ⟨r, h1, h2, h3⟩ => by
              obtain ⟨i, d, x, hr, h4⟩ := move_some h2 hmt.out hnn
              subst hr
              exact ⟨i, d, x, h1, h4, h3⟩)
            clear hnn
            go_upto_region 16 with ((with_reducible refine HMS.out.mono ?_); rintro e w5 ⟨i, d, x, rfl, hfa, m5⟩)
            obtain ⟨hx, hd, hr0, hxd, hxl, hfi, hmt2⟩ := hfa
            have HMT2 := Lib.hid hmt2; have HFI := Lib.hid hfi; have HX := Lib.hid hx; have HXD := Lib.hid hxd; have HXL := Lib.hid hxl
            have hin : i < n2 := by have h1 := (List.getElem?_eq_some_iff.1 hx).1; have h2 := HGR.out.len; omega
            have hdn : d < n3 := by have := hrb.out.1; omega
            have hinz : (i : Int) < (n2 : Int) := by omega
            have hdnz : (d : Int) < (n3 : Int) := by omega
            have OG5 := Lib.hid (hog.out.nw m5); have OE5 := Lib.hid (hoe.out.nw m5); have OR5 := Lib.hid (hor.out.nw m5)
            have NW5 := Lib.hid (gb_trans hnw5 m5)
            have HG5 := Lib.hid (show GsR w5 w5.heap.size A2 n2 gs from OE5.out.gsr OG5.out hgn.out)
            have HXN := Lib.hid (show x.es.length = x.n from (OE5.out.own x (List.mem_of_getElem? hx)).lenL ec_len (by decide))
            have hxm : x.n ≤ 1000000 := hgn.out x (List.mem_of_getElem? hx)
            have hxpos : 0 < x.n := by
              rcases Nat.eq_zero_or_pos x.n with h | h
              · exfalso
                have h1 := HXN.out
                rw [h] at h1
                have h2 : x.es = [] := List.eq_nil_of_length_eq_zero h1
                unfold hasD at hxl
                rw [h2] at hxl; simp at hxl
              · exact h
            have hOX := OE5.out.own x (List.mem_of_getElem? hx)
            obtain ⟨xb, hxA, hxb⟩ := hOX.some_ hxpos
            obtain ⟨gb, hgA, _⟩ := OG5.out.some_ (by omega)
            have hcr : wc.heap.size ≤ w5.heap.size := m5.size
            obtain ⟨r0, hr⟩ : ∃ r, rs.getD d 0 = r := ⟨_, rfl⟩
            have HRV := Lib.hid hr
            rw [hr] at hr0
            have hrle : r0 ≤ 1000000 := by
              have := hrb.out.2.1 (rs[d]'hd) (List.getElem_mem _)
              rwa [getD_at, hr] at this
            obtain ⟨rb, hrA, _⟩ := OR5.out.some_ (by omega)
            have OX5 := Lib.hid hOX
            subst hgA; subst hrA
            have HRO := Lib.hid (show ∀ w', w5.grownBy w' (some xb) → Own w' w.heap.size 3 1 (some ⟨rb, 0, none⟩) n3 c3 (rs.map iv) from fun w' h => OR5.out.kept h (fun y hy e => by
              injection hy with hy; subst hy
              obtain ⟨c1', h1⟩ := OX5.out.rowObj xb (by rw [hxA]; rfl)
              obtain ⟨c2', h2⟩ := OR5.out.rowObj _ e
              exact h1.ne h2 (by decide) rfl))
            have HGO := Lib.hid (show ∀ w', w5.grownBy w' (some xb) → Own w' w.heap.size 37 3 (some ⟨gb, 0, none⟩) n2 c2 (fl gc gs) from fun w' h => OG5.out.kept h (fun y hy e => by
              injection hy with hy; subst hy
              obtain ⟨c1', h1⟩ := OX5.out.rowObj xb (by rw [hxA]; rfl)
              obtain ⟨c2', h2⟩ := OG5.out.rowObj _ e
              exact h1.ne h2 (by decide) rfl))
            have HGC := Lib.hid (show ∀ w', Own w' w.heap.size 37 3 (some ⟨gb, 0, none⟩) n2 c2 (fl gc gs) → ∀ k u, (gc x)[k]? = some u → w'.cell? ⟨gb, i * 3 + k, none⟩ = some u from fun w' h => by
              obtain ⟨_, b', o', x', e1, _, e2, e3⟩ := h.rd.atL gc_len (by decide) hin
              injection e1 with e1; injection e1 with e4 e5; subst e4; subst e5
              have : x' = x := by rw [HX.out] at e2; injection e2 with e2; exact e2.symm
              subst this
              intro k u hu
              have := e3 k u hu
              simpa using this)
            have HRC := Lib.hid (show ∀ w', Own w' w.heap.size 3 1 (some ⟨rb, 0, none⟩) n3 c3 (rs.map iv) → w'.cell? ⟨rb, d, none⟩ = some (.int .i64 r0) ∧ w'.frozen? ⟨rb, d, none⟩ = false from fun w' h => by
              obtain ⟨u, u1, u2, u3⟩ := h.cellAt hdn
              rw [List.getElem?_map, List.getElem?_eq_getElem hd, Option.map_some, getD_at, HRV.out] at u1
              injection u1 with u1; subst u1
              exact ⟨u2, u3⟩)
            have HH1 := Lib.hid (show ∀ w', Nw w5 w' → Calls Try.prog 18 #[.agg (gc x).toArray, .int .i64 (d : Int)] w' (fun e w'' => e = .returned (.bool false) ∧ Nw w' w'') from fun w' hw => by
              have := rhas_any ((HG5.out.all x (List.mem_of_getElem? HX.out)).nw hw (Nat.le_refl _)) hw.size (d : Int)
              rw [HXD.out] at this; exact this)
            have HH2 := Lib.hid (show ∀ w', Nw w5 w' → Calls Try.prog 18 #[.agg (gc x).toArray, .int .i64 lost] w' (fun e w'' => e = .returned (.bool true) ∧ Nw w' w'') from fun w' hw => by
              have := rhas_any ((HG5.out.all x (List.mem_of_getElem? HX.out)).nw hw (Nat.le_refl _)) hw.size lost
              rw [HXL.out] at this; exact this)
            have HCN := Lib.hid (show ∀ w', Nw w5 w' → ∀ k u, (gc x)[k]? = some u → w'.cell? ⟨gb, i * 3 + k, none⟩ = some u from fun w' hw => HGC.out w' (HGO.out w' (gb_nw hw)))
            have hrc := (HRC.out w5 OR5.out).1
            have d1 : decide ((i : Int) < 0) = false := decide_eq_false (by omega)
            have d2 : decide (n2 ≤ i) = false := decide_eq_false (by omega)
            have d3 : decide ((d : Int) < 0) = false := decide_eq_false (by omega)
            have d4 : decide (n3 ≤ d) = false := decide_eq_false (by omega)
            have d5 : decide (r0 < 1) = false := decide_eq_false (by omega)
            clear hx hxd hxl hfi hmt2 hr hOX HMA HMS
            go_wp2_with (first
              | ((with_reducible refine (HH2.out _ p6).mono ?_); rintro e w7 ⟨rfl, p7⟩)
              | ((with_reducible refine wpList_load_agg 37 _ (by with_unfolding_all exact rfl) (by with_unfolding_all exact rfl) (by with_unfolding_all exact rfl) (gc x) (HCN.out _ p6) _ Try.underlying37 (by with_unfolding_all exact rfl) (by rw [gc_len]; kernel_rfl) ?_))
              | ((with_reducible refine (HH1.out _ (Nw.refl _)).mono ?_); rintro e w6 ⟨rfl, p6⟩)
              | ((with_reducible refine wpList_load_agg 37 _ (by with_unfolding_all exact rfl) (by with_unfolding_all exact rfl) (by with_unfolding_all exact rfl) (gc x) (HCN.out _ (Nw.refl _)) _ Try.underlying37 (by with_unfolding_all exact rfl) (by rw [gc_len]; kernel_rfl) ?_)))
            have P57 := Lib.hid (gb_trans p6 p7)
            have OX7 := Lib.hid (show Own w7 w.heap.size 39 2 (some ⟨xb, 0, none⟩) x.n x.c (fl ec x.es) from by rw [← hxA]; exact OX5.out.nw P57.out)
            have HXA := Lib.hid hxA
            obtain ⟨xn, hxn⟩ : ∃ q, x.n = q := ⟨_, rfl⟩
            obtain ⟨xc, hxc⟩ : ∃ q, x.c = q := ⟨_, rfl⟩
            rw [hxn] at OX7 HXN hxm hxpos
            rw [hxc] at OX7
            have HXNV := Lib.hid hxn; have HXCV := Lib.hid hxc
            clear p6 p7 hrc d1 d2 d3 d4 d5 hxA hxn hxc HH1 HH2 HCN
            go_loopw [18] (fun v wr => ∃ (j : Nat) (es' : List Et), v = .int .i64 j ∧ j ≤ xn ∧ Hid (es' = moveE lost d (x.es.take j) ++ x.es.drop j) ∧ Hid (Own wr w.heap.size 39 2 (some ⟨xb, 0, none⟩) xn xc (fl ec es')) ∧ Hid (w7.grownBy wr (some xb))) (fun v _ => xn - (intOf v).toNat)
            case atStart => exact ⟨0, x.es, rfl, Nat.zero_le _, Lib.hid (by simp [moveE]), OX7, Lib.hid (gb_nw (Nw.refl _))⟩
            case round =>
              obtain ⟨j, es', rfl, hj, hes, hoj, hgj⟩ := hrel
              have HGJ := Lib.hid (gb_trans (gb_nw P57.out) hgj.out)
              have hc2 : wr.cell? ⟨gb, i * 3 + 2, none⟩ = some (.slice (some ⟨xb, 0, none⟩) xn xc) := by
                have := HGC.out wr (HGO.out wr HGJ.out) 2 _ rfl
                rwa [HXA.out, HXNV.out, HXCV.out] at this
              by_cases hlj : j < xn
              · have hljz : (j : Int) < (xn : Int) := by omega
                obtain ⟨e, he⟩ : ∃ e, x.es[j]? = some e := ⟨_, List.getElem?_eq_getElem (by rw [HXN.out]; exact hlj)⟩
                obtain ⟨t1, t2, t3⟩ := moveE_take (lost := lost) (d := (d : Int)) he es' hes.out
                obtain ⟨c0', f0', st⟩ := ext_at hoj.out t1
                obtain ⟨ed, ep⟩ := e
                simp only at c0' t2 t3 st
                have T2 := Lib.hid t2; have T3 := Lib.hid t3; have ST := Lib.hid (st (d : Int))
                clear he t1 t2 t3 st
                by_cases hel : ed = lost
                · have hq : (ed == lost) = true := by simpa using hel
                  have HS := Lib.hid (T2.out hel)
                  clear hel
                  go_wp2_with fail
                  go_roundw
                  case rel => exact ⟨j + 1, es'.set j ⟨d, ep⟩, by go_num, by omega, HS, Lib.hid ST.out.1, Lib.hid (gb_trans hgj.out ST.out.2)⟩
                  case measure => simp only [intOf]; omega
                · have hq : (ed == lost) = false := by rw [beq_eq_false_iff_ne]; exact hel
                  have HS := Lib.hid (T3.out hel)
                  clear hel
                  go_wp2_with fail
                  go_roundw
                  case rel => exact ⟨j + 1, es', by go_num, by omega, HS, hoj, hgj⟩
                  case measure => simp only [intOf]; omega
              · have HEE := Lib.hid (show es' = moveE lost d x.es from by
                  have := hes.out
                  rwa [List.take_of_length_le (by rw [HXN.out]; omega), List.drop_of_length_le (by rw [HXN.out]; omega), List.append_nil] at this)
                have OR8 := Lib.hid (HRO.out wr HGJ.out)
                obtain ⟨rc1, rc2⟩ := HRC.out wr OR8.out
                obtain ⟨q1, q2⟩ := OR8.out.set d (.int .i64 (r0 - 1))
                have Q1 := Lib.hid q1; have Q2 := Lib.hid q2
                have hrl2 : d < rs.length := by have := hrb.out.1; omega
                have HLS := Lib.hid (show (rs.map iv).set d (.int .i64 (r0 - 1)) = (lessAt rs d).map iv by unfold lessAt; rw [List.map_set, HRV.out]; rfl)
                have OX8 := Lib.hid (show Own wr w.heap.size 39 2 x.A x.n x.c (fl ec (moveE lost d x.es)) from by rw [HXA.out, HXNV.out, HXCV.out, ← HEE.out]; exact hoj.out)
                have G8 := Lib.hid ((OE5.out.nw P57.out).setE HX.out (by rw [HXA.out]; rfl) hgj.out OX8.out)
                have OG8 := Lib.hid (show Own wr w.heap.size 37 3 (some ⟨gb, 0, none⟩) n2 c2 (fl gc (gs.set i (withE x (moveE lost d x.es)))) from by rw [gc_withE _ _ _ _ HX.out]; exact HGO.out wr HGJ.out)
                have hdl : (d : Int) ≠ lost := by
                  intro e
                  have h1 := HXD.out; have h2 := HXL.out
                  rw [e, h2] at h1; cases h1
                have HNA := Lib.hid (needs_after (d := (d : Int)) HX.out HFI.out hdl)
                have HN1 := Lib.hid (show (needs gs lost).length = (needs (gs.drop (i + 1)) lost).length + 1 by rw [needs_first HX.out HXL.out HFI.out]; rfl)
                have N8 := Lib.hid (show Nw w wr from nw_of_gb (gb_trans NW5.out P57.out) hgj.out (fun z hz => by injection hz with hz; subst hz; exact hxb))
                have HG9 := Lib.hid (show ∀ w9, wr.grownBy w9 (some rb) → Own w9 w.heap.size 37 3 (some ⟨gb, 0, none⟩) n2 c2 (fl gc (gs.set i (withE x (moveE lost d x.es)))) ∧ GsO w9 w.heap.size (gs.set i (withE x (moveE lost d x.es))) from fun w9 h => by
                  obtain ⟨cr, hr3⟩ := OR8.out.obj
                  refine ⟨OG8.out.kept h (fun y hy e => ?_), ⟨fun g hg => (G8.out.own g hg).kept h (fun y hy e => ?_), G8.out.apart⟩⟩
                  · injection hy with hy; subst hy
                    obtain ⟨c2', h2⟩ := OG8.out.rowObj _ e
                    exact hr3.ne h2 (by decide) rfl
                  · injection hy with hy; subst hy
                    obtain ⟨c2', h2⟩ := (G8.out.own g hg).rowObj _ e
                    exact hr3.ne h2 (by decide) rfl)
                have HGN := Lib.hid (show ∀ g ∈ gs.set i (withE x (moveE lost d x.es)), g.n ≤ 1000000 from fun g hg => by
                  rcases List.mem_or_eq_of_mem_set hg with h | h
                  · exact hgn.out g h
                  · subst h; exact hgn.out x (List.mem_of_getElem? HX.out))
                have HSF := Lib.hid (show ∀ w9, w9 = wr.setCell ⟨rb, d, none⟩ (.int .i64 (r0 - 1)) → Calls Try.prog 19 #[.slice (some ⟨gb, 0, none⟩) n2 c2, .slice (some ⟨rb, 0, none⟩) n3 c3, .int .i64 lost] w9 (fun e w' => e = .returned (.bool true) ∧ Nw w9 w') from fun w9 h9 => by
                  subst h9
                  obtain ⟨a1, a2⟩ := HG9.out _ Q2.out
                  have o9 := Q1.out
                  rw [HLS.out] at o9
                  exact (safe_any (a2.gsr a1 HGN.out) o9.rd (Nat.le_refl _) (by omega) (by omega) (lessAt_le hrb.out.2.1) lost).mono fun e w' h => safe_true h (by rw [HNA.out]; exact HMT2.out))
                have hrw : IntKind.i64.wrap (r0 - 1) = r0 - 1 := by rw [IntKind.wrap_i64]; omega
                clear q1 q2 hes hoj hdl
                go_wp2_with ((with_reducible refine (HSF.out _ rfl).mono ?_); rintro e w9 ⟨rfl, m9⟩)
                go_roundw
                case rel =>
                  obtain ⟨a1, a2⟩ := HG9.out _ Q2.out
                  refine ⟨ne - 1, gs.set i (withE x (moveE lost d x.es)), lessAt rs d, by go_num, by omega, Lib.hid ?_, Lib.hid (by rw [HNA.out]; exact HMT2.out), Lib.hid (a1.nw m9), Lib.hid (a2.nw m9), Lib.hid (by have := Q1.out; rw [HLS.out] at this; exact this.nw m9), Lib.hid ⟨by rw [lessAt_len]; exact hrb.out.1, lessAt_le hrb.out.2.1, ?_⟩, HGN, gb_trans (nw_of_gb N8.out Q2.out (fun z hz => by injection hz with hz; subst hz; exact OR8.out.blk _ rfl)) m9⟩
                  · rw [HNA.out]; have h1 := hnl.out; have h2 := HN1.out; omega
                  · intro r hr
                    rcases List.mem_or_eq_of_mem_set hr with h | h
                    · exact hrb.out.2.2 r h
                    · rw [h, HRV.out]; omega
                case measure => simp only [intOf]; omega
end Go.Proofs.Ytobifmndpkjlmaa

