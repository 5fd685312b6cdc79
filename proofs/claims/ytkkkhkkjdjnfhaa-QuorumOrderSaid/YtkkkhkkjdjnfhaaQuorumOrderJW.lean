/- The walk of QuorumOrder. -/
import Derived.Test.YtkkkhkkjdjnfhaaJI
set_option linter.unusedVariables false
set_option linter.unusedSimpArgs false
namespace Go.Proofs.Ytkkkhkkjdjnfhaa
open Go.RowKit Go.BW

theorem Rows.snoc {w w' : World} {base b n c c' : Nat} {L L' : Option Addr} {ls : List Lb} {y : Lb} (h : Rows w base L n c ls) (hy : Own w b 28 3 y.A y.n y.c (fl mc y.ms)) (hb : base ≤ b) (hn : y.n ≤ 20) (k : w.grownBy w' (Value.slice L n c).ownBlock) (ho : Own w' base 24 5 L' (n + 1) c' (fl lc ls ++ lc y)) :
    Rows w' base L' (n + 1) c' (ls ++ [y]) := by
  refine ⟨by rw [fl_app, fl_one]; exact ho, fun x hx => ?_, fun x hx => ?_⟩
  · rcases List.mem_append.1 hx with hx | hx
    · exact (h.mem x hx).kept k (own_apart h.row (h.mem x hx) (by decide))
    · rw [List.mem_singleton] at hx; subst hx
      exact (hy.more hb).kept k (own_apart h.row hy (by decide))
  · rcases List.mem_append.1 hx with hx | hx
    · exact h.few x hx
    · rw [List.mem_singleton] at hx; subst hx; exact hn
theorem Rows.cons {w w' : World} {base b b' n c c' : Nat} {L L' : Option Addr} {ls : List Lb} {y : Lb} (h : Rows w base L n c ls) (hy : Own w b 28 3 y.A y.n y.c (fl mc y.ms)) (hb : base ≤ b) (hb' : base ≤ b') (hn : y.n ≤ 20) (k : Nw w w') (ho : Own w' b' 24 5 L' (1 + n) c' (lc y ++ fl lc ls)) :
    Rows w' base L' (1 + n) c' (y :: ls) := by
  refine ⟨by rw [fl_cons]; exact ho.more hb', fun x hx => ?_, fun x hx => ?_⟩
  · rcases List.mem_cons.1 hx with rfl | hx
    · exact (hy.more hb).nw k
    · exact (h.mem x hx).nw k
  · rcases List.mem_cons.1 hx with rfl | hx
    · exact hn
    · exact h.few x hx
def OrdRel (w : World) (os : List Lb) (i : Nat) (av bv : Value) (wr : World) : Prop :=
  ∃ (na ca nb cb : Nat) (La Lq : Option Addr) (la lq : List Lb), av = .slice La na ca ∧ bv = .slice Lq nb cb ∧ Rows wr w.heap.size La na ca la ∧ Rows wr w.heap.size Lq nb cb lq ∧ (∀ r, (Value.slice La na ca).ownBlock = some r → (Value.slice Lq nb cb).ownBlock ≠ some r) ∧ la.map core = (os.take i).map cut20 ∧ lq.map core = ((os.take i).map cut20).reverse ∧ Nw w wr
theorem ord_zero {w w1 : World} {os : List Lb} (h : Nw w w1) : OrdRel w os 0 (.slice none 0 0) (.slice none 0 0) w1 :=
  ⟨0, 0, 0, 0, none, none, [], [], rfl, rfl, Rows.nil, Rows.nil, by intro r h; simp [Value.ownBlock] at h, rfl, rfl, h⟩
theorem core_cut {x : Lb} {A : Option Addr} {n c : Nat} (h : n = (x.ms.take 20).length) : core ⟨x.a, x.g, x.m, x.b, A, n, c, x.ms.take 20⟩ = cut20 x := by
  subst h; rfl
theorem take_map {os : List Lb} {i : Nat} {x : Lb} (h : os[i]? = some x) : (os.take (i + 1)).map cut20 = (os.take i).map cut20 ++ [cut20 x] := by
  obtain ⟨hi, rfl⟩ := List.getElem?_eq_some_iff.1 h
  rw [List.take_succ_eq_append_getElem hi, List.map_append]; rfl
theorem pick_few {ls : List Lb} (h : ∀ x ∈ ls, x.ms.length ≤ 20) : (pickL ls).ms.length ≤ 20 := by
  unfold pickL
  split
  · by_cases h0 : ls.filter rightB = []
    · rw [h0]; exact Nat.zero_le _
    · exact h _ ((List.mem_filter.1 (maxOf_mem h0)).1)
  · exact Nat.zero_le _
theorem Rows.pick {w : World} {base n c : Nat} {L : Option Addr} {ls : List Lb} (h : Rows w base L n c ls) : (pickL ls).ms.length ≤ 20 :=
  pick_few fun x hx => by rw [(h.mem x hx).lenL mc_len (by decide)]; exact h.few x hx
set_option maxRecDepth 100000 in
set_option maxHeartbeats 8000000 in
theorem order_walk {w : World} {A : Option Addr} {n c : Nat} {os : List Lb} (hin : InL w lc 5 (LIn w) A n c os) : Calls Try.prog 5 #[.slice A n c] w (Ret (.bool true) w) := by
  obtain ⟨hr, hnc, hcm, hlen, hok⟩ := hin
  change Rd w w.heap.size 5 A n (fl lc os) at hr
  have HR := Lib.hid hr; have HOK := Lib.hid hok
  have HS := Lib.hid shown_any
  unfold Ret at HS
  clear hr hok
  go_enter Try.func5, Try.ntmps5
  go_wp2_with (first | ((with_reducible refine (HS.out _).mono ?_); rintro e w1 ⟨rfl, k1⟩; have N1 := Lib.hid k1))
  go_loopw [4, 5, 6] (fun av bv iv wr => ∃ i : Nat, iv = .int .i64 i ∧ i ≤ n ∧ i ≤ 10 ∧ OrdRel w os i av bv wr) (fun _ _ i _ => 10 - (intOf i).toNat)
  case atStart => exact ⟨0, rfl, Nat.zero_le _, by omega, ord_zero N1.out⟩
  case round =>
    obtain ⟨i, rfl, hi, hi10, na, ca, nb, cb, La, Lq, la, lq, rfl, rfl, ra, rb, hne, ea, eb, hnw⟩ := hrel
    have hna : na ≤ 10 := by
      have h1 := congrArg List.length ea
      rw [List.length_map, List.length_map, List.length_take, ra.len] at h1; omega
    have hnb : nb ≤ 10 := by
      have h1 := congrArg List.length eb
      rw [List.length_map, List.length_reverse, List.length_map, List.length_take, rb.len] at h1; omega
    by_cases hlt : i < n ∧ i < 10
    · have h1 : (i : Int) < (n : Int) := by omega
      have h2 : (i : Int) < 10 := by omega
      obtain ⟨_, b, off, x, rfl, hbB, hx, hc⟩ := HR.out.atL lc_len (by decide) hlt.1
      have HC := Lib.hid (fun w' (k : Nw w w') => cut_any ((HOK.out x (List.mem_of_getElem? hx)).nw k (Nat.le_refl _)) k.size)
      unfold CutPost at HC
      have HCX := Lib.hid (fun w' (k : Nw w w') => show ∀ j u, (lc x)[j]? = some u → w'.cell? ⟨b, off + i * 5 + j, none⟩ = some u from fun j u hu => (World.cell?_of_block (k.block b hbB (by simp))).trans (hc j u hu))
      have EA := Lib.hid ea; have EB := Lib.hid eb; have HX := Lib.hid (take_map hx); have RA := Lib.hid ra; have RB := Lib.hid rb; have HNE := Lib.hid hne; have NR := Lib.hid hnw
      have HCC := Lib.hid (fun (A : Option Addr) (n c : Nat) (h : n = (x.ms.take 20).length) => core_cut (A := A) (c := c) h)
      have hl20 : (x.ms.take 20).length ≤ 20 := by rw [List.length_take]; omega
      clear hc hx ra rb hne ea eb hnw
      unfold lv at HC
      unfold lc at HCX
      obtain ⟨xa, xg, xm, xb, xA, xn, xc, xms⟩ := x
      simp only at HC HCX HCC hl20
      obtain ⟨ms, hms⟩ : ∃ ms, xms.take 20 = ms := ⟨_, rfl⟩
      rw [hms] at HC HCC hl20
      go_upto_region 8 with (first
        | (at_builtin; refine wpList_appN_own T33 (cs := [Value.int .i64 xa, .int .i64 xg, .int .i64 xm, .int .i64 xb, .slice A1 n1 c1]) _ _ rfl rfl rfl rfl RA1.out.row rfl (lc_one1 _ _ _ _ _ _ _) (by unfold maxLen; omega) K1.out.size ?_; intro A2 c2 w2 o2 g2 h2)
        | ((with_reducible refine (HC.out _ NR.out).mono ?_); rintro e w1 ⟨A1, n1, c1, rfl, o1, k1⟩; have RA1 := Lib.hid (RA.out.nw k1); have K1 := Lib.hid (gb_trans NR.out k1))
        | (refine wpList_load_agg 24 _ rfl rfl rfl [Value.int .i64 xa, .int .i64 xg, .int .i64 xm, .int .i64 xb, .slice xA xn xc] (HCX.out _ NR.out) _ Try.underlying24 rfl (by kernel_rfl) ?_))
      have hn1 : n1 = ms.length := (o1.lenL mc_len (by decide)).symm
      have RA2 := Lib.hid (Rows.snoc (y := ⟨xa, xg, xm, xb, A1, n1, c1, ms⟩) RA1.out o1 NR.out.size (by simp only; omega) g2 o2)
      have RB2 := Lib.hid ((RB.out.nw k1).other RA1.out.row g2 HNE.out)
      have N2 := Lib.hid (nw_of_gb K1.out g2 RA1.out.row.blk)
      have HN1 := Lib.hid hn1
      clear o1 k1 RA1 K1 o2 g2 h2 RA RB HNE hn1
      go_wp2_with (first
        | (at_builtin; refine wpList_prepend T33 (cs := [Value.int .i64 xa, .int .i64 xg, .int .i64 xm, .int .i64 xb, .slice A3 n3 c3]) _ _ rfl rfl rfl rfl RB3.out.row.rd (Nat.le_refl _) rfl (lc_one lq) (by unfold maxLen; omega) ?_; intro A4 c4 w4 o4 k4 b4)
        | ((with_reducible refine (HC.out _ N2.out).mono ?_); rintro e w3 ⟨A3, n3, c3, rfl, o3, k3⟩; have RA3 := Lib.hid (RA2.out.nw k3); have RB3 := Lib.hid (RB2.out.nw k3); have N3 := Lib.hid (gb_trans N2.out k3))
        | (refine wpList_load_agg 24 _ rfl rfl rfl [Value.int .i64 xa, .int .i64 xg, .int .i64 xm, .int .i64 xb, .slice xA xn xc] (HCX.out _ N2.out) _ Try.underlying24 rfl (by kernel_rfl) ?_))
      have hn3 : n3 = ms.length := (o3.lenL mc_len (by decide)).symm
      have RB4 := Rows.cons (y := ⟨xa, xg, xm, xb, A3, n3, c3, ms⟩) RB3.out o3 N2.out.size N3.out.size (by simp only; omega) k4 o4
      have RA4 := RA3.out.nw k4
      have hne4 : ∀ r, (Value.slice A2 (na + 1) c2).ownBlock = some r → (Value.slice A4 (1 + nb) c4).ownBlock ≠ some r := by
        intro r hr he
        obtain ⟨_, ho⟩ := RA3.out.row.rowObj _ hr
        have l1 := ho.lt; have l2 := b4 _ he
        omega
      have EC1 := HCC.out A1 n1 c1 HN1.out; have EC3 := HCC.out A3 n3 c3 hn3
      go_roundw
      case rel =>
        refine ⟨i + 1, by go_num, by omega, by omega, na + 1, c2, 1 + nb, c4, A2, A4, _, _, rfl, rfl, RA4, RB4, hne4, ?_, ?_, gb_trans N3.out k4⟩
        · rw [HX.out, List.map_append, EA.out, List.map_cons, List.map_nil, EC1]
        · rw [HX.out, List.map_cons, EB.out, List.reverse_append, List.reverse_cons, List.reverse_nil, List.nil_append, EC3]; rfl
      case measure => simp only [intOf]; omega
    · have HO := Lib.hid (choose_order (la := la) (lb := lq) (by rw [eb, ea]))
      have RA := Lib.hid ra; have RB := Lib.hid rb; have NR := Lib.hid hnw
      clear ra rb hne ea eb hnw
      go_upto_region 5 with fail
      go_cut [22] (fun t wx => t = .bool false ∧ wx = wr)
      case first =>
        rcases (show ¬ i < n ∨ (i < n ∧ ¬ i < 10) by omega) with h | ⟨h, h'⟩
        · have d1 : decide ((i : Int) < (n : Int)) = false := by simp; omega
          go_wp2
          go_meet
          exact ⟨rfl, rfl⟩
        · have d1 : (i : Int) < (n : Int) := by omega
          have d2 : decide ((i : Int) < 10) = false := by simp; omega
          go_wp2
          go_meet
          exact ⟨rfl, rfl⟩
      case rest =>
        obtain ⟨rfl, rfl⟩ := hcut
        have HFA := Lib.hid (choose_flat (c := ca) RA.out.row.rd RA.out.ok (Nat.le_refl _) (by omega) (fun x hx => by have := RA.out.few x hx; omega))
        have HFB := Lib.hid (fun w' (k : Nw wc w') => choose_flat (c := cb) (RB.out.nw k).row.rd (RB.out.nw k).ok (Nat.le_refl _) (by omega) (fun x hx => by have := RB.out.few x hx; omega))
        obtain ⟨hE, hM, h1, h2, h3, h4⟩ := HO.out
        obtain ⟨E, hEE⟩ : ∃ E, chooseE la = E := ⟨_, rfl⟩
        obtain ⟨zs, hzs⟩ : ∃ zs, missOf la = zs := ⟨_, rfl⟩
        obtain ⟨p, hp⟩ : ∃ p, pickL la = p := ⟨_, rfl⟩
        obtain ⟨q, hq⟩ : ∃ q, pickL lq = q := ⟨_, rfl⟩
        rw [hp, hq] at h1 h2 h3 h4
        have hpl := RA.out.pick
        rw [hp] at hpl
        rw [hEE] at hE
        rw [hzs] at hM
        rw [hEE, hp, hzs] at HFA
        rw [← hE, hq, ← hM, ← h1, ← h2, ← h3, ← h4] at HFB
        obtain ⟨pa, pg, pm, pb, pA, pn, pc, pms⟩ := p
        obtain ⟨qa, qg, qm, qb, qA, qn, qc, qms⟩ := q
        simp only at HFA HFB hpl
        have hEb : (E == E) = true := by simp
        clear hEE hzs hp hq h1 h2 h3 h4 hE hM HO
        go_upto_region 10 with ((with_reducible refine HFA.out.mono ?_); rintro e w3 ⟨k3, A3, n3, c3, M3, l3, d3, rfl, o3, p3⟩)
        have gX := World.grownBy_alloc w3 (.cells #[.int .i64 pa, .int .i64 pg, .int .i64 pm, .int .i64 pb, .slice A3 n3 c3] 24) none
        have xX := Obj1.new w3 24 #[.int .i64 pa, .int .i64 pg, .int .i64 pm, .int .i64 pb, .slice A3 n3 c3]
        obtain ⟨X, hX⟩ : ∃ X, w3.alloc (.cells #[.int .i64 pa, .int .i64 pg, .int .i64 pm, .int .i64 pb, .slice A3 n3 c3] 24) = X := ⟨_, rfl⟩
        obtain ⟨x, hx⟩ : ∃ x, w3.heap.size = x := ⟨_, rfl⟩
        rw [hX] at gX xX
        rw [hx] at xX ⊢
        rw [hX]
        have KX := Lib.hid (gb_trans k3 gX); have XX := Lib.hid xX; have OX := Lib.hid (o3.nw gX); have PX := Lib.hid (p3.nw gX)
        have hxw : wc.heap.size ≤ x := by have := k3.size; omega
        clear gX xX hX hx k3 o3 p3
        go_upto_region 11 with ((with_reducible refine (HFB.out _ KX.out).mono ?_); rintro e w4 ⟨k4, A4, n4, c4, M4, l4, d4, rfl, o4, p4⟩)
        have gY := World.grownBy_alloc w4 (.cells #[.int .i64 pa, .int .i64 pg, .int .i64 qm, .int .i64 pb, .slice A4 n4 c4] 24) none
        have xY := Obj1.new w4 24 #[.int .i64 pa, .int .i64 pg, .int .i64 qm, .int .i64 pb, .slice A4 n4 c4]
        obtain ⟨Y, hY⟩ : ∃ Y, w4.alloc (.cells #[.int .i64 pa, .int .i64 pg, .int .i64 qm, .int .i64 pb, .slice A4 n4 c4] 24) = Y := ⟨_, rfl⟩
        obtain ⟨y, hy⟩ : ∃ y, w4.heap.size = y := ⟨_, rfl⟩
        rw [hY] at gY xY
        rw [hy] at xY ⊢
        rw [hY]
        have hyw : X.heap.size ≤ y := by have := k4.size; omega
        have hl3 : l3 = zs.length := by have h := PX.out.len; rw [List.length_map, Nat.mul_one] at h; omega
        have hl4 : l4 = l3 := by have h := p4.len; rw [List.length_map, Nat.mul_one] at h; omega
        have hn3 : n3 = pms.length := (OX.out.lenL mc_len (by decide)).symm
        have hn4 : n4 = pms.length := (o4.lenL mc_len (by decide)).symm
        have hP3 := (PX.out.nw k4).nw gY
        have hP4 := p4.nw gY
        have hXY := (XX.out.nw k4).nw gY
        have hO3 := (OX.out.nw k4).nw gY
        have hO4 := o4.nw gY
        have NY := Lib.hid (gb_trans KX.out (gb_trans k4 gY))
        have hlt3 := XX.out.lt
        have hxy : x ≠ y := by omega
        subst hl4
        have hcap := hP3.cap
        unfold maxLen at hcap
        have P3 := Lib.hid hP3; have P4 := Lib.hid hP4; have X3 := Lib.hid hXY; have Y3 := Lib.hid xY; have O3 := Lib.hid hO3; have O4 := Lib.hid hO4; have HZ := Lib.hid hl3; have HN3 := Lib.hid hn3; have HN4 := Lib.hid hn4
        have hYlt : wc.heap.size ≤ y := by have := KX.out.size; omega
        clear gY xY hY hy k4 o4 p4 hP3 hP4 hXY hO3 hO4 OX PX XX KX hlt3 hl3 hn3 hn4
        go_upto_region 13 with fail
        go_wp2_with fail
        go_loopw [13] (fun iv wx => ∃ i : Nat, i ≤ l4 ∧ iv = .int .i64 i ∧ Nw Y wx) (fun i _ => l4 - (intOf i).toNat)
        case atStart => exact ⟨0, Nat.zero_le _, rfl, Nw.refl _⟩
        case round =>
          obtain ⟨i, hil, rfl, hnx⟩ := hrel
          by_cases hi4 : i < l4
          · have d1 : (i : Int) < (l4 : Int) := by omega
            obtain ⟨r3, rfl, _⟩ := P3.out.some_ (by omega)
            obtain ⟨r4, rfl, _⟩ := P4.out.some_ (by omega)
            obtain ⟨z, hz⟩ : ∃ z, zs[i]? = some z := ⟨_, List.getElem?_eq_getElem (show i < zs.length by have := HZ.out; omega)⟩
            have f3 : ∀ w', Nw wr w' → w'.cell? ⟨r3, i, none⟩ = some (.int .i64 z) := fun w' k => by
              obtain ⟨u, hu, hc, _⟩ := (P3.out.nw (gb_trans hnx k)).cellAt hi4
              rw [List.getElem?_map, hz] at hu
              cases hu
              exact hc
            have f4 : ∀ w', Nw wr w' → w'.cell? ⟨r4, i, none⟩ = some (.int .i64 z) := fun w' k => by
              obtain ⟨u, hu, hc, _⟩ := (P4.out.nw (gb_trans hnx k)).cellAt hi4
              rw [List.getElem?_map, hz] at hu
              cases hu
              exact hc
            clear hz
            go_wp2_with fail
            refine wp_region_held (S := (fun w' => Nw wr w')) (by kernel_rfl) ?_
            change wpAnyH _ _ _ _ _ _ _ _ (World.drew wr)
            refine held_seg' (l := [0, 1, 2, 3, 4, 5, 6, 7, 8]) (fuel := 0) rfl (by kernel_rfl) (by kernel_rfl) (by simp only [List.filterMap_cons, List.filterMap_nil, List.getElem?_toArray, List.getElem?_cons_succ, List.getElem?_cons_zero]; rfl) (fun _ _ d _ _ h => by cases d <;> exact h) (gb_drew (Nw.refl wr)) ?_
            iterate 9 (refine wpYield_step rfl (fun K hK => ?_)
                       apply Exists.intro
                       refine ⟨fun w' hw' => ?_, ?_⟩
                       · (go_simp; try with_reducible rfl)
                       go_simp
                       refine hK _ ?_
                       clear hK K)
            refine wpYield_nil ?_
            refine wpAnyH_done (by kernel_rfl) ?_ _
            go_wp2
            go_roundw
            case rel => exact ⟨i + 1, by omega, by go_num, gb_trans hnx (gb_drew (Nw.refl wr))⟩
            case measure => simp only [intOf]; omega
          · have d1 : decide ((i : Int) < (l4 : Int)) = false := by simp; omega
            have cx := (X3.out.nw hnx).cell 2
            have cy := (Y3.out.nw hnx).cell 2
            have fy := (Y3.out.nw hnx).frozen 2
            have gS : wr.grownBy (wr.setCell ⟨y, 2, none⟩ (.int .i64 pm)) (some y) := gb_set (gb_nw (Nw.refl wr)) (.inl rfl) _
            have Y5 : Obj1 (wr.setCell ⟨y, 2, none⟩ (.int .i64 pm)) y 24 #[.int .i64 pa, .int .i64 pg, .int .i64 pm, .int .i64 pb, .slice A4 n4 c4] := (Y3.out.nw hnx).set 2 _
            go_upto_region 19 with fail
            obtain ⟨V, hV⟩ : ∃ V, wr.setCell ⟨y, 2, none⟩ (.int .i64 pm) = V := ⟨_, rfl⟩
            rw [hV] at gS Y5
            rw [hV]
            have X5 := Obj1.kept' (X3.out.nw hnx) gS (fun r hr => by injection hr with hr; omega)
            have kk : ∀ {t s n c : Nat} {A : Option Addr} {xs : List Value}, Own Y w.heap.size t s A n c xs → True := fun _ => trivial
            have O5 := (O3.out.nw hnx).kept gS (fun r hr e => by injection hr with hr; subst hr; obtain ⟨cur, ho⟩ := (O3.out.nw hnx).rowObj _ e; exact ho.ne (Y3.out.nw hnx) (by decide) rfl)
            have Q5 := (O4.out.nw hnx).kept gS (fun r hr e => by injection hr with hr; subst hr; obtain ⟨cur, ho⟩ := (O4.out.nw hnx).rowObj _ e; exact ho.ne (Y3.out.nw hnx) (by decide) rfl)
            have NV := Lib.hid (nw_of_gb (gb_trans NY.out hnx) gS (fun r hr => by injection hr with hr; omega))
            have HSM := rsame_any (w := V) (x := ⟨pa, pg, pm, pb, A3, n3, c3, pms⟩) (y := ⟨pa, pg, pm, pb, A4, n4, c4, pms⟩) ⟨O5.rd, O5.cap.1, O5.cap.2⟩ ⟨Q5.rd, Q5.cap.1, Q5.cap.2⟩ (Nat.le_refl _) (Nat.le_refl _) (by have := HN3.out; simp only; omega) (by have := HN4.out; simp only; omega)
            have hsl : sameL ⟨pa, pg, pm, pb, A3, n3, c3, pms⟩ ⟨pa, pg, pm, pb, A4, n4, c4, pms⟩ = true := by unfold sameL eqM; simp
            rw [hsl] at HSM
            unfold Ret lv at HSM
            have HS' := Lib.hid HSM; have X6 := Lib.hid X5; have Y6 := Lib.hid Y5
            clear HSM hsl X5 Y5 O5 Q5 gS hV cx cy fy kk hnx
            go_wp2_with (first
              | ((with_reducible refine HS'.out.mono ?_); rintro e w10 ⟨rfl, k10⟩)
              | (refine wpList_load_obj 24 _ rfl rfl rfl Y6.out _ Try.underlying24 rfl (by kernel_rfl) ?_)
              | (refine wpList_load_obj 24 _ rfl rfl rfl X6.out _ Try.underlying24 rfl (by kernel_rfl) ?_))
            go_ret
            exact ⟨rfl, gb_trans (gb_trans NR.out NV.out) k10⟩
theorem order_all {w : World} (A : Option Addr) (n c : Nat) (os : List Lb) (hin : InL w lc 5 (LIn w) A n c os) : Calls Try.prog 5 #[.slice A n c] w (Ret (.bool true) w) := order_walk hin
end Go.Proofs.Ytkkkhkkjdjnfhaa

