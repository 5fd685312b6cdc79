/- The walk of ScriptLengths. -/
import Derived.Test.YtmcgfnfhpcddlaaJK
set_option linter.unusedVariables false
set_option linter.unusedSimpArgs false
namespace Go.Proofs.Ytmcgfnfhpcddlaa
open Go.RowKit Go.BW

set_option maxRecDepth 100000 in
set_option maxHeartbeats 8000000 in
theorem lengths_walk {w : World} {B : Nat} {x : Sc} (h : SOk w B x) (hB : B ≤ w.heap.size) : Calls Try.prog 8 #[sv x] w (Ret (.bool true) w) := by
  have HSH := Lib.hid (fun w' => shown_any w')
  unfold Ret at HSH
  have HT := Lib.hid (fun w' (k : Nw w w') => tame_any (h.nw k hB) (Nat.le_trans hB k.size))
  have hok := tameS_ok h.scrOk
  have hrt := tameS_right (scr x)
  obtain ⟨T, hT⟩ : ∃ T, tameS (scr x) = T := ⟨_, rfl⟩
  rw [hT] at HT hok hrt
  unfold ScPost sv at HT
  unfold sv
  obtain ⟨num, A, n, c, sz, bl, D, m, d, acts⟩ := x
  obtain ⟨tn, tz, tb, ta⟩ := T
  simp only at HT ⊢
  have hbox := Obj1.new w 25 #[.int .i64 num, .slice A n c, .int .i64 bl, .slice D m d]
  have hg0 := World.grownBy_alloc w (.cells #[.int .i64 num, .slice A n c, .int .i64 bl, .slice D m d] 25) none
  obtain ⟨W, hW⟩ : ∃ W, w.alloc (.cells #[.int .i64 num, .slice A n c, .int .i64 bl, .slice D m d] 25) = W := ⟨_, rfl⟩
  obtain ⟨y, hy⟩ : ∃ y, w.heap.size = y := ⟨_, rfl⟩
  rw [hW] at hbox hg0
  rw [hy] at hbox
  have B0 := Lib.hid hbox; have N0 := Lib.hid hg0
  have hwy : w.heap.size ≤ y := by omega
  have HRT := Lib.hid hrt; have HOK := Lib.hid hok
  clear hbox hg0 h hrt hok hT
  go_enter Try.func8, Try.ntmps8
  go_upto_region 3 with (first
    | ((with_reducible refine wpList_store_obj 25 _ _ (by with_unfolding_all exact rfl) (by with_unfolding_all exact rfl) [.int .i64 tn, .slice A2 n2 c2, .int .i64 tb, .slice D2 m2 d2] (by with_unfolding_all exact rfl) (by with_unfolding_all exact rfl) (by with_unfolding_all exact rfl) (by kernel_rfl) (sc_one _ _ _ _ _ _ _ _) P2.out (by with_unfolding_all exact rfl) ?_); intro w3 s3 g3)
    | ((with_reducible refine (HT.out _ N1.out).mono ?_); rintro e w2 ⟨A2, D2, n2, c2, m2, d2, rfl, o2, q2, k2⟩; have P2 := Lib.hid (B1.out.nw k2); have N2 := Lib.hid (gb_trans N1.out k2); have O2 := Lib.hid (o2.more N1.out.size); have Q2 := Lib.hid (q2.more N1.out.size))
    | ((with_reducible refine wpList_load_obj 25 _ (by with_unfolding_all exact rfl) (by with_unfolding_all exact rfl) (by with_unfolding_all exact rfl) B1.out _ Try.underlying25 (by with_unfolding_all exact rfl) (by kernel_rfl) ?_))
    | ((with_reducible refine (HSH.out _).mono ?_); rintro e w1 ⟨rfl, k1⟩; have B1 := Lib.hid (B0.out.nw k1); have N1 := Lib.hid (gb_trans N0.out k1)))
  have P3 := Lib.hid s3; have Z3 := Lib.hid (own_keep25 O2.out P2.out g3); have A3 := Lib.hid (own_keep25 Q2.out P2.out g3)
  have N3 := Lib.hid (nw_of_gb N2.out g3 (fun q hq => by injection hq with hq; omega))
  have hnz : tz.length = n2 := by have h := Z3.out.len; simpa using h
  have hma : ta.length = m2 := A3.out.lenL actC_len (by decide)
  clear s3 g3 o2 q2 k2 k1 P2 N2 O2 Q2 B1 N1 B0 N0 HT HSH hy hW hwy
  have sok3 : SOk w3 w3.heap.size ⟨tn, A2, n2, c2, tz, tb, D2, m2, d2, ta⟩ := ⟨Z3.out.rd, Z3.out.cap.1, Z3.out.cap.2, A3.out.rd, A3.out.cap.1, A3.out.cap.2, HOK.out.a⟩
  have HB := Lib.hid (sbytes_any sok3 (Nat.le_refl _))
  unfold BytesPost sv at HB
  rw [show scr ⟨tn, A2, n2, c2, tz, tb, D2, m2, d2, ta⟩ = ⟨tn, tz, tb, ta⟩ from rfl, show bytesE ⟨tn, tz, tb, ta⟩ = 0 from by unfold bytesE; rw [HRT.out]; rfl, show bytesO ⟨tn, tz, tb, ta⟩ = bytesS ⟨tn, tz, tb, ta⟩ from by unfold bytesO; rw [HRT.out]; rfl] at HB
  go_upto_region 4 with (first | ((with_reducible refine HB.out.mono ?_); rintro e w4 ⟨Bb, nb, cb, rfl, o4, k4⟩) | ((with_reducible refine wpList_load_obj 25 _ (by with_unfolding_all exact rfl) (by with_unfolding_all exact rfl) (by with_unfolding_all exact rfl) P3.out _ Try.underlying25 (by with_unfolding_all exact rfl) (by kernel_rfl) ?_)))
  have P4 := Lib.hid (P3.out.nw k4); have Z4 := Lib.hid (Z3.out.nw k4); have A4 := Lib.hid (A3.out.nw k4); have N4 := Lib.hid (gb_trans N3.out k4); have O4 := Lib.hid o4
  have hnb : (bytesS ⟨tn, tz, tb, ta⟩).length = nb := by have h := o4.len; simpa using h
  have hbl := bytes_len ⟨tn, tz, tb, ta⟩
  simp only at hbl
  rw [hnb, hnz] at hbl
  have p1 := P4.out.cell 1
  obtain ⟨hr1, hr2, hr3, hr4, hr5, hr6⟩ := rightS_parts HRT.out
  simp only at hr2 hr4
  have hn12 : n2 ≤ 12 := by omega
  have hm120 : m2 ≤ 120 := by omega
  have HBL := Lib.hid hbl; have HNB := Lib.hid hnb; have HMA := Lib.hid hma; have HNZ := Lib.hid hnz
  have hsl : ∀ i, i ≤ m2 → sumL (ta.take i) ≤ 67 * i := by
    intro i
    induction i with
    | zero => intro _; simp [sumL]
    | succ i ih =>
      intro hi
      have hx : ta[i]? = some ta[i] := List.getElem?_eq_getElem (by omega)
      rw [sum_take hx]
      have h1 := ih (by omega)
      have h2 : lenA ta[i] ≤ 67 := by
        have h3 := fillN_le ta[i].s
        have h4 := (HOK.out.a ta[i] (List.getElem_mem _)).s
        unfold lenA
        repeat' split
        all_goals omega
      omega
  have HSL := Lib.hid hsl
  clear o4 k4 hbl hnb hma hnz hr1 hr2 hr3 hr4 hr5 hr6 hsl P3 Z3 A3 N3 HB
  go_wp2_with fail
  go_loopw [6, 7] (fun v i wr => ∃ j : Nat, j ≤ m2 ∧ i = .int .i64 j ∧ v = .int .i64 (9 + 2 * (n2 : Int) + (sumL (ta.take j) : Int)) ∧ Nw w4 wr) (fun _ i _ => m2 - (intOf i).toNat)
  case atStart => exact ⟨0, Nat.zero_le _, rfl, by simp [sumL] <;> omega, Nw.refl _⟩
  case round =>
    obtain ⟨j, hj, rfl, rfl, hnw⟩ := hrel
    have p3 := (P4.out.nw hnw).cell 3
    rcases (show j < m2 ∨ j = m2 by omega) with hlt | rfl
    · have d1 : (j : Int) < (m2 : Int) := by omega
      obtain ⟨g, rfl, _⟩ := (A4.out.nw hnw).some_ (by omega)
      obtain ⟨v, hv⟩ : ∃ v, ta[j]? = some v := ⟨_, List.getElem?_eq_getElem (show j < ta.length by rw [HMA.out]; exact hlt)⟩
      have HC := Lib.hid ((A4.out.nw hnw).atL actC_len (by decide) hv)
      have hvo := (HOK.out.a v (List.mem_of_getElem? hv)).s
      have HL := Lib.hid (fun w' => length_any hvo w')
      unfold Ret at HL
      have hs1 := HSL.out j hj; have hs2 := HSL.out (j + 1) (by omega)
      have HST := Lib.hid (sum_take hv)
      rw [HST.out] at hs2
      obtain ⟨SJ, hSJ⟩ : ∃ q, sumL (ta.take j) = q := ⟨_, rfl⟩
      obtain ⟨LV, hLV⟩ : ∃ q, lenA v = q := ⟨_, rfl⟩
      rw [hSJ, hLV] at hs2
      rw [hSJ] at hs1
      rw [hSJ, hLV] at HST
      rw [hLV] at HL
      rw [hSJ]
      have NR := Lib.hid hnw
      clear hv hSJ hLV hnw
      go_wp2_with (first
        | ((with_reducible refine (HL.out _).mono ?_); rintro e w5 ⟨rfl, k5⟩)
        | ((with_reducible refine wpList_load_agg 44 _ (by with_unfolding_all exact rfl) (by with_unfolding_all exact rfl) (by with_unfolding_all exact rfl) (actC v) HC.out _ Try.underlying44 (by with_unfolding_all exact rfl) (i44' v) ?_)))
      go_roundw
      case rel => exact ⟨j + 1, by omega, by go_num, by rw [HST.out]; congr 1; omega, gb_trans NR.out k5⟩
      case measure => simp only [intOf]; omega
    · have d1 : decide ((j : Int) < (j : Int)) = false := by simp
      rw [List.take_of_length_le (by rw [HMA.out]; exact Nat.le_refl _)]
      have hnbe : 9 + 2 * (n2 : Int) + (sumL ta : Int) = (nb : Int) := by have := HBL.out; omega
      rw [hnbe]
      have e1 : ((nb : Int) != (nb : Int)) = false := by simp
      rcases (show j = 0 ∨ 0 < j by omega) with rfl | hpos
      · have e2 : (((0 : Nat) : Int) == 0) = true := rfl
        go_wp2
        go_ret
        exact ⟨rfl, gb_trans N4.out hnw⟩
      have e2 : ((j : Int) == 0) = false := by rw [beq_eq_false_iff_ne]; omega
      obtain ⟨g, rfl, _⟩ := (A4.out.nw hnw).some_ (by omega)
      obtain ⟨v, hv⟩ : ∃ v, ta[j - 1]? = some v := ⟨_, List.getElem?_eq_getElem (show j - 1 < ta.length by rw [HMA.out]; omega)⟩
      have hvo := (HOK.out.a v (List.mem_of_getElem? hv)).s
      have hlaw := less_law (s := ⟨tn, tz, tb, ta⟩) (a := v) (by simp only; rw [HMA.out]; exact hv)
      simp only at hlaw
      rw [HMA.out, HNZ.out, HNB.out] at hlaw
      have hless : lessS ⟨tn, tz, tb, ta⟩ = ⟨tn, tz, tb, ta.take (j - 1)⟩ := by unfold lessS; simp only; rw [HMA.out]
      rw [hless] at hlaw
      have hrl := less_right HRT.out
      have hol := less_ok HOK.out
      rw [hless] at hrl hol
      have HLAW := Lib.hid hlaw; have HRL := Lib.hid hrl; have HOL := Lib.hid hol; have HVO := Lib.hid hvo; have HV := Lib.hid hv
      have hj1 : (j : Int) - 1 = ((j - 1 : Nat) : Int) := by omega
      have HCE := Lib.hid (fun w' (k : Nw w4 w') => (A4.out.nw k).atL actC_len (by decide) HV.out)
      have P5 := Lib.hid (P4.out.nw hnw); have Z5 := Lib.hid (Z4.out.nw hnw); have A5 := Lib.hid (A4.out.nw hnw); have O5 := Lib.hid (O4.out.nw hnw); have N5 := Lib.hid (gb_trans N4.out hnw); have NR := Lib.hid hnw
      have p1 := P5.out.cell 1
      clear hlaw hless hrl hol hvo hv
      go_upto_region 15 with (first
        | ((with_reducible refine wpList_store44 _ _ (by with_unfolding_all exact rfl) (by with_unfolding_all exact rfl) v (by with_unfolding_all exact rfl) (by with_unfolding_all exact rfl) X6.out ?_); intro w7 s7 g7)
        | ((with_reducible refine wpList_alloc44 (by with_unfolding_all exact rfl) (by with_unfolding_all exact rfl) ?_); intro gx w6 x6 n6 l6; have X6 := Lib.hid x6; have P6 := Lib.hid (P5.out.nw n6); have Z6 := Lib.hid (Z5.out.nw n6); have A6 := Lib.hid (A5.out.nw n6); have O6 := Lib.hid (O5.out.nw n6); have N6 := Lib.hid (gb_trans N5.out n6))
        | ((with_reducible refine wpList_load_agg 44 _ (by with_unfolding_all exact rfl) (by with_unfolding_all exact rfl) (by with_unfolding_all exact rfl) (actC v) (HCE.out _ NR.out) _ Try.underlying44 (by with_unfolding_all exact rfl) (i44' v) ?_)))
      have hgx : w.heap.size ≤ gx := by have := N5.out.size; omega
      have hax : (Value.slice (some ⟨g, 0, none⟩) j d2).ownBlock = some g := rfl
      have hgl : g < wr.heap.size := by obtain ⟨_, ho⟩ := A5.out.obj; exact ho.lt
      have X7 := Lib.hid s7; have P7 := Lib.hid (Obj1.kept'' P6.out g7 (fun q hq => by injection hq with hq; subst hq; exact P6.out.ne X6.out (by decide)))
      have Z7 := Lib.hid (own_keep Z6.out X6.out (by decide) g7); have O7 := Lib.hid (own_keep O6.out X6.out (by decide) g7)
      have A7 := Lib.hid (A6.out.kept g7 (fun q hq he => by injection hq with hq; rw [hax] at he; injection he with he; omega))
      have N7 := Lib.hid (nw_of_gb N6.out g7 (fun q hq => by injection hq with hq; omega))
      clear s7 g7 x6 n6 l6 X6 P6 Z6 A6 O6 N6 P5 Z5 A5 O5 N5 HCE hgl
      go_upto_region 16 with (first | ((with_reducible refine wpList_load_obj 25 _ (by with_unfolding_all exact rfl) (by with_unfolding_all exact rfl) (by with_unfolding_all exact rfl) P7.out _ Try.underlying25 (by with_unfolding_all exact rfl) (by kernel_rfl) ?_)))
      have gY := World.grownBy_alloc w7 (.cells #[.int .i64 tn, .slice A2 n2 c2, .int .i64 tb, .slice (some ⟨g, 0, none⟩) j d2] 25) none
      have xY := Obj1.new w7 25 #[.int .i64 tn, .slice A2 n2 c2, .int .i64 tb, .slice (some ⟨g, 0, none⟩) j d2]
      obtain ⟨Y, hY⟩ : ∃ V, w7.alloc (.cells #[.int .i64 tn, .slice A2 n2 c2, .int .i64 tb, .slice (some ⟨g, 0, none⟩) j d2] 25) = V := ⟨_, rfl⟩
      obtain ⟨z, hz⟩ : ∃ y, w7.heap.size = y := ⟨_, rfl⟩
      rw [hY] at gY xY
      rw [hz] at xY ⊢
      rw [hY]
      have hyz : y ≠ z := by have := P7.out.lt; omega
      have hwz : w.heap.size ≤ z := by have := N7.out.size; omega
      have Y8 := Lib.hid xY; have P8 := Lib.hid (P7.out.nw gY); have Z8 := Lib.hid (Z7.out.nw gY); have A8 := Lib.hid (A7.out.nw gY); have O8 := Lib.hid (O7.out.nw gY); have N8 := Lib.hid (gb_trans N7.out gY); have X8 := Lib.hid (X7.out.nw gY)
      have p3 := P8.out.cell 3
      have hjd : j - 1 ≤ d2 := by have := A8.out.cap; omega
      clear gY xY hY hz P7 Z7 A7 O7 N7 X7
      go_upto_region 17 with (first
        | ((with_reducible refine wpList_store_obj' 23 _ _ (by with_unfolding_all exact rfl) (by with_unfolding_all exact rfl) (i := 3) (.slice (some ⟨g, 0, none⟩) (j - 1) d2) (by with_unfolding_all exact rfl) (by with_unfolding_all exact rfl) (by kernel_rfl) (by with_unfolding_all exact rfl) Y8.out (by with_unfolding_all exact rfl) (by with_unfolding_all exact rfl) ?_); intro w9 s9 g9)
        | (refine wpList_slice_hi 23 44 Try.underlying23 (size := 69) (by kernel_rfl) _ _ rfl rfl (some ⟨g, 0, none⟩) j d2 (j - 1) rfl rfl hjd ?_))
      have Y9 := Lib.hid (show Obj1 w9 z 25 #[.int .i64 tn, .slice A2 n2 c2, .int .i64 tb, .slice (some ⟨g, 0, none⟩) (j - 1) d2] from s9)
      have P9 := Lib.hid (Obj1.kept'' P8.out g9 (fun q hq => by injection hq with hq; omega))
      have Z9 := Lib.hid (own_keep25 Z8.out Y8.out g9); have A9 := Lib.hid (own_keep25 A8.out Y8.out g9); have O9 := Lib.hid (own_keep25 O8.out Y8.out g9)
      have X9 := Lib.hid (X8.out.other g9 (Obj1.ne X8.out Y8.out (by decide))); have N9 := Lib.hid (nw_of_gb N8.out g9 (fun q hq => by injection hq with hq; omega))
      have ap := own_pre A9.out (k := j - 1) (by omega)
      rw [fl_take actC_len] at ap
      have HBC := Lib.hid (sbytes_any (w := w9) (B := w9.heap.size) (x := ⟨tn, A2, n2, c2, tz, tb, some ⟨g, 0, none⟩, j - 1, d2, ta.take (j - 1)⟩) ⟨Z9.out.rd, Z9.out.cap.1, Z9.out.cap.2, ap.rd, ap.cap.1, ap.cap.2, HOL.out.a⟩ (Nat.le_refl _))
      unfold BytesPost sv at HBC
      rw [show scr ⟨tn, A2, n2, c2, tz, tb, some ⟨g, 0, none⟩, j - 1, d2, ta.take (j - 1)⟩ = ⟨tn, tz, tb, ta.take (j - 1)⟩ from rfl, show bytesE ⟨tn, tz, tb, ta.take (j - 1)⟩ = 0 from by unfold bytesE; rw [HRL.out]; rfl, show bytesO ⟨tn, tz, tb, ta.take (j - 1)⟩ = bytesS ⟨tn, tz, tb, ta.take (j - 1)⟩ from by unfold bytesO; rw [HRL.out]; rfl] at HBC
      clear s9 g9 ap Y8 P8 Z8 A8 O8 X8 N8 p3
      go_upto_region 18 with (first | ((with_reducible refine HBC.out.mono ?_); rintro e w10 ⟨Cb, nc, cc, rfl, o10, k10⟩) | ((with_reducible refine wpList_load_obj 25 _ (by with_unfolding_all exact rfl) (by with_unfolding_all exact rfl) (by with_unfolding_all exact rfl) Y9.out _ Try.underlying25 (by with_unfolding_all exact rfl) (by kernel_rfl) ?_)))
      have hnc : (bytesS ⟨tn, tz, tb, ta.take (j - 1)⟩).length = nc := by have h := o10.len; simpa using h
      obtain ⟨l1, l2, l3, l4, l5⟩ := HLAW.out
      rw [hnc] at l1 l4 l5
      obtain ⟨K, hK⟩ : ∃ K : Nat, 8 + 2 * n2 = K := ⟨_, rfl⟩
      rw [hK] at l2 l3 l4
      have hKi : 8 + 2 * (n2 : Int) = (K : Int) := by omega
      rw [hKi]
      have hKc : K < nc := by have := (List.getElem?_eq_some_iff.1 l3).1; omega
      have hKb : K < nb := by omega
      have P10 := Lib.hid (P9.out.nw k10); have O10 := Lib.hid (O9.out.nw k10); have C10 := Lib.hid o10; have X10 := Lib.hid (X9.out.nw k10); have N10 := Lib.hid (gb_trans N9.out k10)
      obtain ⟨gb, rfl, _⟩ := O10.out.some_ (by omega)
      obtain ⟨gc, rfl, _⟩ := C10.out.some_ (by omega)
      have bval : ∀ (w' : World), Nw w10 w' → ∀ i c, (bytesS ⟨tn, tz, tb, ta⟩)[i]? = some c → w'.cell? ⟨gb, i, none⟩ = some (.int .u8 (c.toNat : Int)) := fun w' k i c hc => by
        have hi : i < nb := by have := (List.getElem?_eq_some_iff.1 hc).1; have := HNB.out; omega
        obtain ⟨u, hu, hcell, _⟩ := (O10.out.nw k).cellAt hi
        rw [List.getElem?_map, hc] at hu
        cases hu
        exact hcell
      have cval : ∀ (w' : World), Nw w10 w' → ∀ i c, (bytesS ⟨tn, tz, tb, ta.take (j - 1)⟩)[i]? = some c → w'.cell? ⟨gc, i, none⟩ = some (.int .u8 (c.toNat : Int)) := fun w' k i c hc => by
        have hi : i < nc := by have := (List.getElem?_eq_some_iff.1 hc).1; omega
        obtain ⟨u, hu, hcell, _⟩ := (C10.out.nw k).cellAt hi
        rw [List.getElem?_map, hc] at hu
        cases hu
        exact hcell
      have BV := Lib.hid bval; have CV := Lib.hid cval; have L4 := Lib.hid l4; have HNC := Lib.hid hnc
      have f1 : ∀ w', Nw w10 w' → w'.cell? ⟨gb, K, none⟩ = some (.int .u8 (j : Int)) := fun w' k => by
        have := BV.out w' k K _ l2
        rwa [b8_nat (by omega) (by omega)] at this
      have f2 : ∀ w', Nw w10 w' → w'.cell? ⟨gc, K, none⟩ = some (.int .u8 ((j - 1 : Nat) : Int)) := fun w' k => by
        have := CV.out w' k K _ l3
        rwa [b8_nat (by omega) (by omega)] at this
      have f3 : ∀ w', Nw w10 w' → w'.cell? ⟨y, 3, none⟩ = some (.slice (some ⟨g, 0, none⟩) j d2) := fun w' k => (P10.out.nw k).cell 3
      have hvk := (rightA_parts ((rightS_parts HRT.out).2.2.2.2.2 v (List.mem_of_getElem? HV.out))).1
      have f4 : ∀ w', Nw w10 w' → w'.cell? ⟨gb, nc, none⟩ = some (.int .u8 v.k) := fun w' k => by
        have := BV.out w' k nc _ l5
        rwa [b8_nat (by omega) (by omega)] at this
      have F4 := Lib.hid f4
      have HL := Lib.hid (fun w' => length_any HVO.out w')
      unfold Ret at HL
      obtain ⟨LV, hLV⟩ : ∃ q, lenA v = q := ⟨_, rfl⟩
      rw [hLV] at HL l1
      have hsub : (nb : Int) - (LV : Int) = (nc : Int) := by omega
      have hLVb : LV ≤ nb := by omega
      have hncb : nc < nb ∨ nc = nb := by omega
      have hncl : nc < nb := by have := (List.getElem?_eq_some_iff.1 l5).1; have := HNB.out; omega
      clear bval cval l1 l2 l3 l4 l5 hnc hK hKi hLV o10 k10 P9 Z9 A9 O9 X9 N9 Y9 HBC f4 hncb hvk
      have hb0 : nb ≤ 1000000 := by have := HBL.out; have := HSL.out j (Nat.le_refl _); rw [List.take_of_length_le (by rw [HMA.out]; exact Nat.le_refl _)] at this; omega
      have hw1 : IntKind.i64.wrap (nc : Int) = (nc : Int) := by rw [IntKind.wrap_i64]; omega
      have hw2 : IntKind.i64.wrap ((j : Int) - 1) = ((j - 1 : Nat) : Int) := by rw [hj1, IntKind.wrap_i64]; omega
      have hw3 : IntKind.i64.wrap (j : Int) = (j : Int) := by rw [IntKind.wrap_i64]; omega
      have hw4 : IntKind.i64.wrap ((j - 1 : Nat) : Int) = ((j - 1 : Nat) : Int) := by rw [IntKind.wrap_i64]; omega
      have e5 : ((nc : Int) != (nc : Int)) = false := by simp
      have e6 : ((j : Int) != (j : Int)) = false := by simp
      have e7 : (((j - 1 : Nat) : Int) != ((j - 1 : Nat) : Int)) = false := by simp
      refine wp_region_held (S := (fun w' => Nw w10 w')) (by kernel_rfl) ?_
      change wpAnyH _ _ _ _ _ _ _ _ (World.drew w10)
      refine held_seg' (l := [0, 1, 2, 3, 4, 5, 6]) (fuel := 27) rfl (by kernel_rfl) (by kernel_rfl) (by simp only [List.filterMap_cons, List.filterMap_nil, List.getElem?_toArray, List.getElem?_cons_succ, List.getElem?_cons_zero]; rfl) (fun _ _ d _ _ h => by cases d <;> exact h) (gb_drew (Nw.refl w10)) ?_
      iterate 6 (refine wpYield_step rfl (fun K hK => ?_)
                 apply Exists.intro
                 refine ⟨fun w' hw' => ?_, ?_⟩
                 · (go_simp; try with_reducible rfl)
                 go_simp
                 refine hK _ ?_
                 clear hK K)
      refine wpYield_load_agg 44 _ rfl rfl rfl (actC v) (fun w' hw' i u hu => by rw [Nat.zero_add]; exact (X10.out.nw hw').at hu) _ Try.underlying44 rfl (i44' v) ?_
      refine wpYield_nil ?_
      refine held_eff 7 rfl (by kernel_rfl) rfl (fun K hK => ?_)
      go_simp
      refine (HL.out _).mono ?_
      rintro e w11 ⟨rfl, k11⟩
      have K11 := Lib.hid (gb_trans (gb_drew (Nw.refl w10)) k11)
      refine hK _ _ ⟨K11.out, ?_⟩
      clear hK K k11
      refine held_seg' (l := [8, 9, 10, 11, 12, 13, 14, 15, 16, 17, 18, 19, 20, 21, 22, 23, 24, 25, 26, 27, 28, 29, 30, 31, 32, 33]) (fuel := 0) rfl (by kernel_rfl) (by kernel_rfl) (by simp only [List.filterMap_cons, List.filterMap_nil, List.getElem?_toArray, List.getElem?_cons_succ, List.getElem?_cons_zero]; rfl) (fun _ _ d _ _ h => by cases d <;> exact h) K11.out ?_
      iterate 26 (refine wpYield_step rfl (fun K hK => ?_)
                  apply Exists.intro
                  refine ⟨fun w' hw' => ?_, ?_⟩
                  · (go_simp; try with_reducible rfl)
                  go_simp
                  refine hK _ ?_
                  clear hK K)
      refine wpYield_nil ?_
      refine wpAnyH_done (by kernel_rfl) ?_ _
      clear f1 f2 f3 hsub HL
      have NE := Lib.hid (gb_trans N10.out K11.out)
      go_wp2_with fail
      go_loopw [13] (fun iv' wr => ∃ i : Nat, i ≤ nc ∧ iv' = .int .i64 i ∧ Nw w10 wr) (fun i _ => nc - (intOf i).toNat)
      case atStart => exact ⟨0, Nat.zero_le _, rfl, K11.out⟩
      case round =>
        obtain ⟨i, hi, rfl, hnw⟩ := hrel
        rcases (show i < nc ∨ i = nc by omega) with hlt | rfl
        · have d2 : (i : Int) < (nc : Int) := by omega
          go_upto_region 23 with fail
          by_cases hiK : i = K
          · subst hiK
            have e3 : ((i : Int) != (i : Int)) = false := by simp
            refine wp_region_held (S := (fun w' => Nw wr w')) (by kernel_rfl) ?_
            change wpAnyH _ _ _ _ _ _ _ _ (World.drew wr)
            refine held_seg' (l := [0, 1, 2, 3, 4, 5, 6, 7, 8, 9, 10, 11, 12, 13]) (fuel := 0) rfl (by kernel_rfl) (by kernel_rfl) (by simp only [List.filterMap_cons, List.filterMap_nil, List.getElem?_toArray, List.getElem?_cons_succ, List.getElem?_cons_zero]; rfl) (fun _ _ d _ _ h => by cases d <;> exact h) (gb_drew (Nw.refl wr)) ?_
            iterate 4 (refine wpYield_step rfl (fun K hK => ?_)
                       apply Exists.intro
                       refine ⟨fun w' hw' => ?_, ?_⟩
                       · (go_simp; try with_reducible rfl)
                       go_simp
                       refine hK _ ?_
                       clear hK K)
            iterate 9 (refine wpYield_skipK rfl (fun K hK => ?_); go_simp; refine hK _ ?_; clear hK K)
            (refine wpYield_step rfl (fun K hK => ?_)
             apply Exists.intro
             refine ⟨fun w' hw' => ?_, ?_⟩
             · (go_simp; try with_reducible rfl)
             go_simp
             refine hK _ ?_
             clear hK K)
            refine wpYield_nil ?_
            refine wpAnyH_done (by kernel_rfl) ?_ _
            go_wp2
            go_roundw
            case rel => exact ⟨i + 1, by omega, by go_num, gb_trans hnw (gb_drew (Nw.refl wr))⟩
            case measure => simp only [intOf]; omega
          · have e3 : ((i : Int) != (K : Int)) = true := by rw [bne_iff_ne]; omega
            obtain ⟨q, hq⟩ : ∃ q, (bytesS ⟨tn, tz, tb, ta.take (j - 1)⟩)[i]? = some q := ⟨_, List.getElem?_eq_getElem (show i < _ by rw [HNC.out]; exact hlt)⟩
            have hq2 := hq
            rw [L4.out i hlt hiK] at hq2
            have f5 : ∀ w', Nw wr w' → w'.cell? ⟨gc, i, none⟩ = some (.int .u8 (q.toNat : Int)) := fun w' k => CV.out w' (gb_trans hnw k) i q hq
            have f6 : ∀ w', Nw wr w' → w'.cell? ⟨gb, i, none⟩ = some (.int .u8 (q.toNat : Int)) := fun w' k => BV.out w' (gb_trans hnw k) i q hq2
            have e4 : ((q.toNat : Int) != (q.toNat : Int)) = false := by simp
            have hib : i < nb := by omega
            clear hq hq2
            refine wp_region_held (S := (fun w' => Nw wr w')) (by kernel_rfl) ?_
            change wpAnyH _ _ _ _ _ _ _ _ (World.drew wr)
            refine held_seg' (l := [0, 1, 2, 3, 4, 5, 6, 7, 8, 9, 10, 11, 12, 13]) (fuel := 0) rfl (by kernel_rfl) (by kernel_rfl) (by simp only [List.filterMap_cons, List.filterMap_nil, List.getElem?_toArray, List.getElem?_cons_succ, List.getElem?_cons_zero]; rfl) (fun _ _ d _ _ h => by cases d <;> exact h) (gb_drew (Nw.refl wr)) ?_
            iterate 14 (refine wpYield_step rfl (fun K hK => ?_)
                        apply Exists.intro
                        refine ⟨fun w' hw' => ?_, ?_⟩
                        · (go_simp; try with_reducible rfl)
                        go_simp
                        refine hK _ ?_
                        clear hK K)
            refine wpYield_nil ?_
            refine wpAnyH_done (by kernel_rfl) ?_ _
            go_wp2
            go_roundw
            case rel => exact ⟨i + 1, by omega, by go_num, gb_trans hnw (gb_drew (Nw.refl wr))⟩
            case measure => simp only [intOf]; omega
        · have d2 : decide ((i : Int) < (i : Int)) = false := by simp
          have f7 : ∀ w', Nw wr w' → w'.cell? ⟨gb, i, none⟩ = some (.int .u8 v.k) := fun w' k => F4.out w' (gb_trans hnw k)
          have f8 : ∀ w', Nw wr w' → w'.cell? ⟨gx, 0, none⟩ = some (.int .i64 v.k) := fun w' k => (X10.out.nw (gb_trans hnw k)).k
          have hvk := (rightA_parts ((rightS_parts HRT.out).2.2.2.2.2 v (List.mem_of_getElem? HV.out))).1
          have hwv : IntKind.i64.wrap v.k = v.k := by rw [IntKind.wrap_i64]; omega
          go_wp2_with fail
          refine wp_region_held (S := (fun w' => Nw wr w')) (by kernel_rfl) ?_
          change wpAnyH _ _ _ _ _ _ _ _ (World.drew wr)
          refine held_seg' (l := [0, 1, 2, 3, 4, 5, 6, 7, 8, 9, 10, 11, 12]) (fuel := 0) rfl (by kernel_rfl) (by kernel_rfl) (by simp only [List.filterMap_cons, List.filterMap_nil, List.getElem?_toArray, List.getElem?_cons_succ, List.getElem?_cons_zero]; rfl) (fun _ _ d _ _ h => by cases d <;> exact h) (gb_drew (Nw.refl wr)) ?_
          iterate 13 (refine wpYield_step rfl (fun K hK => ?_)
                      apply Exists.intro
                      refine ⟨fun w' hw' => ?_, ?_⟩
                      · (go_simp; try with_reducible rfl)
                      go_simp
                      refine hK _ ?_
                      clear hK K)
          refine wpYield_nil ?_
          refine wpAnyH_done (by kernel_rfl) ?_ _
          go_wp2
          go_ret
          exact ⟨rfl, gb_trans (gb_trans N10.out hnw) (gb_drew (Nw.refl wr))⟩
theorem lengths_all {w : World} (x : Sc) (h : SIn w x) : Calls Try.prog 8 #[sv x] w (Ret (.bool true) w) := lengths_walk h (Nat.le_refl _)
end Go.Proofs.Ytmcgfnfhpcddlaa

