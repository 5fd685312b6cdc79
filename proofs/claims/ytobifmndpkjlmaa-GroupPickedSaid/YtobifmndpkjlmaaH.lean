/- matched's closure give: a group is given a disk, or all disks that it may get are tried. -/
import Derived.Test.YtobifmndpkjlmaaG
import Derived.Test.YtobifmndpkjlmaaB
import Derived.Test.YtobifmndpkjlmaaReg
import Derived.Deep.DeepCutAuto
namespace Go.Proofs.Ytobifmndpkjlmaa
open Go.RowKit Go.BW

def lks (gs : List Gp) : List (List Int) := gs.map dks
def Lf (gs : List Gp) : Nat → List Int := fun x => (lks gs).getD x []
theorem Lf_at {gs : List Gp} {k : Nat} {x : Gp} (h : gs[k]? = some x) : Lf gs k = dks x := by
  unfold Lf lks; simp [List.getD_eq_getElem?_getD, h]
def GivePost (base : Nat) (p : Pm) (rs : List Int) (gs : List Gp) (rows : List Rw) (T : Nat → Bool) (g : Nat) (w : World) (e : Ending) (w' : World) : Prop :=
  ∃ (b : Bool) (rows' : List Rw) (T' : Nat → Bool), e = .returned (.bool b) ∧ GiM w' base p rs gs rows' T' ∧ Below base w w' ∧ Gd rs (Lf gs) gs.length (GG rows') ∧
    (b = true → GTrue (GG rows) T g (GG rows')) ∧ (b = false → rows' = rows ∧ GFalse rs (Lf gs) (GG rows) T g T')
theorem MT63 : MapT Try.prog 63 3 4 (.bool false) := ⟨Try.underlying63, Try.underlying3, fun w => by
  have h : (Try.prog.info? 4).map (·.zero) = some (some (.bool false)) := by kernel_rfl
  obtain ⟨i, hi, hz⟩ := Option.map_eq_some_iff.1 h
  simp [zeroValue, typeInfo, hi, hz]⟩
theorem below_nw {base : Nat} {w w' : World} (h : Nw w w') (hB : base ≤ w.heap.size) : Below base w w' :=
  ⟨h.os, h.tape, h.output, h.size, fun i hi => h.block i (Nat.lt_of_lt_of_le hi hB) (by simp)⟩
theorem below_gb {base x : Nat} {w w' : World} (h : w.grownBy w' (some x)) (hB : base ≤ w.heap.size) (hx : base ≤ x) : Below base w w' :=
  ⟨h.os, h.tape, h.output, h.size, fun i hi => h.block i (Nat.lt_of_lt_of_le hi hB) (by intro e; injection e with e; omega)⟩
theorem below_tr {base : Nat} {w w1 w2 : World} (h : Below base w w1) (k : Below base w1 w2) : Below base w w2 :=
  ⟨k.os.trans h.os, k.tape.trans h.tape, k.output.trans h.output, Nat.le_trans h.size k.size, fun i hi => (k.block i hi).trans (h.block i hi)⟩
set_option maxHeartbeats 8000000 in
theorem give_any (base : Nat) (p : Pm) (rs : List Int) (gs : List Gp) (hl : rs.length = p.n) (hgl : gs.length = p.nl) (hn : p.n ≤ 1000000) (hm : p.nl ≤ 1000000) (hM : ∀ r ∈ rs, r ≤ 1000000) :
    ∀ (k : Nat) (rows : List Rw) (T : Nat → Bool) (g : Nat) (w : World), un rs.length T < k → g < gs.length → Gd rs (Lf gs) gs.length (GG rows) → GiM w base p rs gs rows T →
    Calls Try.prog 46 #[.int .i64 g, ptr p.bR, ptr p.bT, ptr p.bL, ptr p.bG, ptr p.bF] w (GivePost base p rs gs rows T g w) := by
  obtain ⟨bR, bT, bL, bG, bF, mp, gO, AR, n, cR, AL, nl, cL⟩ := p
  obtain ⟨p, hp⟩ : ∃ p : Pm, p = ⟨bR, bT, bL, bG, bF, mp, gO, AR, n, cR, AL, nl, cL⟩ := ⟨_, rfl⟩
  simp only at hl hgl hn hm ⊢
  intro k
  induction k with
  | zero => intro rows T g w h; omega
  | succ k ih =>
    intro rows T g w hun hg hgd hgi
    rw [← hp] at hgi ih ⊢
    have IH := Lib.hid ih
    have GD := Lib.hid hgd
    have HL := Lib.hid hl; have HGL := Lib.hid hgl; have HM := Lib.hid hM
    have CS := Lib.hid (show ∀ w rows T, GiM w base p rs gs rows T → w.cell? ⟨bR, 0, none⟩ = some (.slice AR n cR) ∧ w.cell? ⟨bT, 0, none⟩ = some (.map (some mp)) ∧ w.cell? ⟨bL, 0, none⟩ = some (.slice AL nl cL) ∧
        w.cell? ⟨bG, 0, none⟩ = some (.slice (some ⟨gO, 0, none⟩) n n) ∧ w.cell? ⟨bF, 0, none⟩ = some (.func (.func 46) #[] #[.pointer (some ⟨bR, 0, none⟩), .pointer (some ⟨bT, 0, none⟩), .pointer (some ⟨bL, 0, none⟩), .pointer (some ⟨bG, 0, none⟩), .pointer (some ⟨bF, 0, none⟩)]) from
      fun _ _ _ h => by have := h.bx.cells; rw [hp] at this; exact this)
    have RM := Lib.hid (show ∀ w rows T, GiM w base p rs gs rows T → Rd w base 1 AR n (rs.map iv) from fun _ _ _ h => by have := h.bx.rooms; rw [hp] at this; exact this)
    have GR := Lib.hid (show ∀ w rows T, GiM w base p rs gs rows T → GsR w base AL nl gs from fun _ _ _ h => by have := h.bx.groups; rw [hp] at this; exact this)
    have GO := Lib.hid (show p.gO = gO by rw [hp])
    have PG := Lib.hid (show p.bG = bG by rw [hp])
    have MP := Lib.hid (show p.mp = mp by rw [hp])
    have LN := Lib.hid (show p.n = n by rw [hp])
    have hgn : g < nl := by omega
    have hgz : (g : Int) < (nl : Int) := by omega
    have GI := Lib.hid hgi
    unfold ptr at IH ⊢
    clear ih hgd hgi hM hp
    obtain ⟨k1, k2, k3, k4, k5⟩ := CS.out _ _ _ GI.out
    go_enter Try.func46, Try.ntmps46
    go_wp2_with fail
    clear k1 k2 k3 k4 k5
    go_loopw [14] (fun v wr => ∃ (d : Nat) (T1 : Nat → Bool), v = .int .i64 d ∧ d ≤ n ∧ GiM wr base p rs gs rows T1 ∧ Below base w wr ∧ Hid (GLoop rs (Lf gs) (GG rows) T g d T1)) (fun v _ => n - (intOf v).toNat)
    case atStart => exact ⟨0, T, rfl, Nat.zero_le _, GI.out, Below.refl _ _, Lib.hid GLoop.start⟩
    case round =>
      obtain ⟨d, T1, rfl, hd, hgi, hbw, hlo⟩ := hrel
      obtain ⟨wa, rfl⟩ : ∃ q, q = wr := ⟨_, rfl⟩
      obtain ⟨k1, k2, k3, k4, k5⟩ := CS.out _ _ _ hgi
      have G1 := Lib.hid hgi
      have BW := Lib.hid hbw
      clear hgi hbw
      by_cases hlt : d < n
      · have hltz : (d : Int) < (n : Int) := by omega
        obtain ⟨b, off, hA, hc⟩ := atD (RM.out _ _ _ G1.out) hlt
        subst hA
        obtain ⟨x, hx⟩ : ∃ x, rs.getD d 0 = x := ⟨_, rfl⟩
        rw [hx] at hc
        have HX := Lib.hid hx
        clear hx
        rcases (show x < 1 ∨ 1 ≤ x by omega) with h0 | h0
        · have HN := Lib.hid (hlo.out.skip (.inl (by rw [HX.out]; omega)))
          clear hlo
          go_wp2_with fail
          go_roundw
          case rel => exact ⟨d + 1, T1, by go_num, by omega, G1.out, BW.out, HN⟩
          case measure => simp only [intOf]; omega
        · have d0 : decide (x < 1) = false := decide_eq_false (by omega)
          obtain ⟨t, ht⟩ : ∃ t, T1 d = t := ⟨_, rfl⟩
          have HT := Lib.hid ht
          have hmt := mapT_at T1 d
          rw [ht] at hmt
          have MT := Lib.hid hmt
          have MM := Lib.hid (show MapI wa mp (mapT T1) from by have := G1.out.map; rw [MP.out] at this; exact this)
          clear ht hmt
          rcases t with _ | _
          · -- not tried
            obtain ⟨_, b3, off3, y, hA3, _, hy, hcy⟩ := (GR.out _ _ _ G1.out).rd.atL gc_len (by decide) hgn
            have HA3 := Lib.hid hA3
            have HCY := Lib.hid hcy
            have HY := Lib.hid hy
            have HH := Lib.hid (show Calls Try.prog 32 #[.agg (gc y).toArray, .int .i64 d] wa (Ret (.bool (hasD y d)) wa) from has_any ((GR.out _ _ _ G1.out).all y (List.mem_of_getElem? hy)) G1.out.bx.hB d)
            have HD := Lib.hid (show Lf gs g = dks y from Lf_at hy)
            obtain ⟨q, hq⟩ : ∃ q, hasD y d = q := ⟨_, rfl⟩
            rw [hq] at HH
            have HQ := Lib.hid hq
            unfold Ret at HH
            clear hy hcy hq
            subst hA3
            rcases q with _ | _
            · have hno : (d : Int) ∉ Lf gs g := by rw [HD.out]; exact (hasD_not y d).1 HQ.out
              have HNO := Lib.hid hno
              have hdr : d < rows.length := by rw [G1.out.len, LN.out]; exact hlt
              obtain ⟨⟨rA, rc, rxs⟩, hr⟩ : ∃ r, rows[d]? = some r := ⟨_, List.getElem?_eq_getElem hdr⟩
              have HR := Lib.hid hr
              have HGr := Lib.hid (GG_at hr)
              have HG3 := Lib.hid (show ∀ w2 w3, Nw wa w2 → MapI w3 mp (fun z => if z = (d : Int) then some (.bool true) else mapT T1 z) → w2.grownBy w3 (some mp) → GiM w3 base p rs gs rows (more T1 d) ∧ Below base wa w3 from fun w2 w3 n2 m3 g3 =>
                ⟨(G1.out.nw n2).mapped (by rw [MP.out]; exact g3) (by rw [MP.out, ← mapT_more]; exact m3), below_tr (below_nw n2 G1.out.bx.hB) (below_gb g3 (Nat.le_trans G1.out.bx.hB n2.size) (by rw [← MP.out]; exact G1.out.mb))⟩)
              have HCD := Lib.hid (show ∀ w' T', GiM w' base p rs gs rows T' → w'.cell? ⟨gO, d, none⟩ = some (.slice rA rxs.length rc) from fun w' T' h => by
                obtain ⟨u, h1, h2, _⟩ := h.giv.own.cellAt hdr
                rw [List.getElem?_map, HR.out] at h1
                injection h1 with h1
                subst h1
                rw [← GO.out]
                exact h2)
              have HF := Lib.hid (GD.out.fit d (by rw [HL.out]; exact hlt)).1
              clear hr hno hdr
              obtain ⟨lx, hlx⟩ : ∃ lx, rxs.length = lx := ⟨_, rfl⟩
              rw [hlx] at HCD
              have HLX := Lib.hid hlx
              clear hlx
              rcases (show (lx : Int) < x ∨ x ≤ (lx : Int) by omega) with h5 | h5
              · have hpos : 0 < x := by omega
                have hlx : lx ≤ 1000000 := by
                  have h1 := HM.out x
                  have h2 : x ∈ rs := by
                    rw [← HX.out, ← getD_at (by rw [HL.out]; exact hlt)]
                    exact List.getElem_mem _
                  have := h1 h2
                  omega
                have HP := Lib.hid (show GTrue (GG rows) T g (GG (rows.set d ⟨none, 0, rxs ++ [g]⟩)) ∧ Gd rs (Lf gs) gs.length (GG (rows.set d ⟨none, 0, rxs ++ [g]⟩)) from by
                  rw [GG_set]
                  have e : (⟨none, 0, rxs ++ [g]⟩ : Rw).xs = (GG rows).getD d [] ++ [g] := by rw [HGr.out]
                  rw [e]
                  refine ⟨hlo.out.push HT.out (by rw [GG_len, G1.out.len, LN.out]; exact hlt), GD.out.push (by rw [HL.out]; exact hlt) hg HNO.out ?_⟩
                  rw [HGr.out, HLX.out, HX.out]; exact h5)
                clear hlo
                go_upto_region 7 with (first | ((with_reducible refine wpList_updI MT63 _ _ _ (by with_unfolding_all exact rfl) (by with_unfolding_all exact rfl) (by with_unfolding_all exact rfl) d (by with_unfolding_all exact rfl) (.bool true) (by with_unfolding_all exact rfl) (MM.out.nw n2) ?_); intro w3 m3 g3; have G3 := Lib.hid (HG3.out w2 w3 n2 m3 g3); clear m3 g3; obtain ⟨k6, k7, k8, k9, k10⟩ := CS.out _ _ _ G3.out.1; have k11 := HCD.out _ _ G3.out.1) | ((with_reducible refine HH.out.mono ?_); rintro e w2 ⟨rfl, n2⟩; have k6 := cell_nw k2 n2) | ((with_reducible refine wpList_load_agg 37 _ (by with_unfolding_all exact rfl) (by with_unfolding_all exact rfl) (by with_unfolding_all exact rfl) (gc y) HCY.out _ Try.underlying37 (by with_unfolding_all exact rfl) (by rw [gc_len]; kernel_rfl) ?_)) | ((with_reducible refine wpList_lookI MT63 _ _ (by with_unfolding_all exact rfl) (by with_unfolding_all exact rfl) (by with_unfolding_all exact rfl) d (by with_unfolding_all exact rfl) MM.out MT.out ?_)))
                have S3 := Lib.hid (And.intro k9 k11)
                have HI := Lib.hid (show Own w3 base 3 1 rA lx rc (rxs.map nv) from by rw [← HLX.out]; exact G3.out.1.giv.inner _ (List.mem_of_getElem? HR.out))
                have HO := Lib.hid (show Own w3 base 22 1 (some ⟨gO, 0, none⟩) n n (rows.map rwv) from by
                  have h := G3.out.1.giv.own
                  rw [GO.out, G3.out.1.len, LN.out] at h; exact h)
                have hb3 : base ≤ w3.heap.size := G3.out.1.bx.hB
                have BG := Lib.hid (show Obj1 w3 bG 62 #[.slice (some ⟨gO, 0, none⟩) n n] from by have := G3.out.1.bx.hG; rw [PG.out, GO.out, LN.out] at this; exact this)
                have RB := Lib.hid (show ∀ x, (Value.slice rA lx rc).ownBlock = some x → ∃ cur, Obj1 w3 x 3 cur from fun x hx => HI.out.rowObj x hx)
                clear k2 k4 k5 k6 k7 k8 k9 k10 k11 hc
                refine wp_region_U [10] (fun w' => w'.cell? ⟨bG, 0, none⟩ = some (.slice (some ⟨gO, 0, none⟩) n n) ∧ w'.cell? ⟨gO, d, none⟩ = some (.slice rA lx rc)) (by kernel_rfl) ?_
                change wpU _ _ _ _ _ _ _ _ _ (World.drew w3)
                refine U_segL (r := [0, 1, 2, 3, 4, 5, 6]) (fuel := 4) rfl (by kernel_rfl) (by kernel_rfl) (by simp only [List.filterMap_cons, List.filterMap_nil, List.getElem?_toArray, List.getElem?_cons_succ, List.getElem?_cons_zero]; rfl) (fun _ _ d _ _ h => by cases d <;> exact h) S3.out ?_
                iterate 7 (refine wpYield_step rfl (fun K hK => ?_)
                           apply Exists.intro
                           refine ⟨fun w' hw' => ?_, ?_⟩
                           · (go_simp; try with_reducible rfl)
                           go_simp
                           refine hK _ ?_
                           clear hK K)
                refine wpYield_nil ?_
                refine U_eff 7 rfl (by kernel_rfl) rfl (fun K hK => ?_)
                go_simp
                refine hK _ _ ⟨until_of ⟨cell_alloc S3.out.1, cell_alloc S3.out.2⟩, ?_⟩
                clear hK K
                refine U_eff 8 rfl (by kernel_rfl) rfl (fun K hK => ?_)
                refine wp_app_own T22 _ _ rfl rfl rfl (World.ownsRow.alloc (HI.out.drew) _) rd_one (by intro u hu; rw [List.mem_singleton] at hu; subst hu; rfl) (by unfold maxLen; omega) (by simp; omega) ?_
                intro A' c' w5 h2 h3 h4
                have K1 := Lib.hid (show w3.grownBy w5 (Value.slice rA lx rc).ownBlock from gb_of_drew (gb_trans (World.grownBy_alloc _ _ _) h3))
                have BG5 := Lib.hid (show Obj1 w5 bG 62 #[.slice (some ⟨gO, 0, none⟩) n n] from BG.out.eq (K1.out.block _ BG.out.lt fun e => by
                  obtain ⟨cur, hc⟩ := RB.out _ e.symm
                  exact hc.ne BG.out (by decide) rfl))
                have O5 := Lib.hid (HO.out.kept K1.out (fun x hx e => by
                  obtain ⟨cur, hc⟩ := RB.out _ hx
                  obtain ⟨cur2, hc2⟩ := HO.out.rowObj _ e
                  exact hc.ne hc2 (by decide) rfl))
                have C5 := Lib.hid (show w5.cell? ⟨gO, d, none⟩ = some (.slice rA lx rc) from by
                  obtain ⟨u, h1, h2, _⟩ := O5.out.cellAt (k := d) hlt
                  rw [List.getElem?_map, HR.out] at h1
                  injection h1 with h1
                  subst h1
                  rw [h2]; unfold rwv; rw [HLX.out])
                have H2 := Lib.hid h2
                have H4 := Lib.hid (show (Value.slice A' (lx + 1) c').ownBlock = (Value.slice rA lx rc).ownBlock ∨ ∃ g, w3.heap.size ≤ g ∧ (Value.slice A' (lx + 1) c').ownBlock = some g from h4.imp id fun h => ⟨_, by simp, h⟩)
                clear h2 h3 h4
                refine hK _ _ ⟨until_of ⟨BG5.out.cell 0, C5.out⟩, ?_⟩
                clear hK K
                refine U_segL (r := [9]) (fuel := 1) rfl (by kernel_rfl) (by kernel_rfl) (by simp only [List.filterMap_cons, List.filterMap_nil, List.getElem?_toArray, List.getElem?_cons_succ, List.getElem?_cons_zero]; rfl) (fun _ _ d _ _ h => by cases d <;> exact h) (And.intro (BG5.out.cell 0) C5.out) ?_
                (refine wpYield_step rfl (fun K hK => ?_)
                 apply Exists.intro
                 refine ⟨fun w' hw' => ?_, ?_⟩
                 · (go_simp; try with_reducible rfl)
                 go_simp
                 refine hK _ ?_
                 clear hK K)
                refine wpYield_nil ?_
                refine U_eff 10 rfl (by kernel_rfl) rfl (fun K hK => ?_)
                refine wp_store_own 22 _ _ rfl rfl rfl rfl (by kernel_rfl) (cs := [.slice A' (lx + 1) c']) (by intro u hu; rw [List.mem_singleton] at hu; subst hu; rfl) O5.out (by simp; omega) ?_
                intro w6 s1 s2
                have G6 := Lib.hid (show GiM w6 base p rs gs (rows.set d ⟨A', c', rxs ++ [g]⟩) (more T1 d) from
                  G3.out.1.rowed HR.out (w1 := w5) (by unfold rwv; rw [HLX.out]; exact K1.out) (by
                    have h := H2.out
                    simp only [List.length_append, List.length_singleton, List.map_append, List.map_cons, List.map_nil, HLX.out]
                    exact h) (by
                    have h := H4.out
                    unfold rwv
                    simp only [List.length_append, List.length_singleton, HLX.out]
                    exact h) (by rw [GO.out]; exact s2) (by
                    have h := s1
                    rw [GO.out, G3.out.1.len, LN.out]
                    unfold rwv at h ⊢
                    simp only [List.length_append, List.length_singleton, HLX.out]
                    exact h))
                have B6 := Lib.hid (show Below base w w6 from below_tr BW.out (below_tr G3.out.2 (below_tr (⟨K1.out.os, K1.out.tape, K1.out.output, K1.out.size, fun i hi => K1.out.block i (Nat.lt_of_lt_of_le hi hb3) (fun e => by
                    have := HI.out.blk i e.symm; omega)⟩) (below_gb s2 (Nat.le_trans hb3 K1.out.size) (by rw [← GO.out]; exact G3.out.1.gb)))))
                refine hK _ _ ⟨until_past (by kernel_rfl), ?_⟩
                clear hK K s1 s2
                refine U_done (by kernel_rfl) ?_ _
                go_wp2
                go_ret
                refine ⟨true, _, _, rfl, G6.out, B6.out, ?_, fun _ => ?_, fun h => by cases h⟩
                · have := HP.out.2; rw [GG_set] at this ⊢; exact this
                · have := HP.out.1; rw [GG_set] at this ⊢; exact this
              · have HE := Lib.hid (hlo.out.enter HT.out)
                have hlx : lx ≤ 1000000 := by
                  have h1 := HM.out x
                  have h2 : x ∈ rs := by
                    rw [← HX.out, ← getD_at (by rw [HL.out]; exact hlt)]
                    exact List.getElem_mem _
                  have h3 := h1 h2
                  have h4 := HF.out
                  rw [HGr.out, HX.out] at h4
                  have h6 : rxs.length = lx := HLX.out
                  simp only at h4
                  omega
                clear hlo
                go_wp2_with (first | ((with_reducible refine wpList_updI MT63 _ _ _ (by with_unfolding_all exact rfl) (by with_unfolding_all exact rfl) (by with_unfolding_all exact rfl) d (by with_unfolding_all exact rfl) (.bool true) (by with_unfolding_all exact rfl) (MM.out.nw n2) ?_); intro w3 m3 g3; have G3 := Lib.hid (HG3.out w2 w3 n2 m3 g3); clear m3 g3; obtain ⟨k6, k7, k8, k9, k10⟩ := CS.out _ _ _ G3.out.1; have k11 := HCD.out _ _ G3.out.1) | ((with_reducible refine HH.out.mono ?_); rintro e w2 ⟨rfl, n2⟩; have k6 := cell_nw k2 n2) | ((with_reducible refine wpList_load_agg 37 _ (by with_unfolding_all exact rfl) (by with_unfolding_all exact rfl) (by with_unfolding_all exact rfl) (gc y) HCY.out _ Try.underlying37 (by with_unfolding_all exact rfl) (by rw [gc_len]; kernel_rfl) ?_)) | ((with_reducible refine wpList_lookI MT63 _ _ (by with_unfolding_all exact rfl) (by with_unfolding_all exact rfl) (by with_unfolding_all exact rfl) d (by with_unfolding_all exact rfl) MM.out MT.out ?_)))
                clear k2 k4 k5 k6 k7 k8 k9 k10 k11 hc
                go_loopw [58] (fun v wr => ∃ (i : Nat) (T3 : Nat → Bool), v = .int .i64 i ∧ i ≤ lx ∧ GiM wr base p rs gs rows T3 ∧ Below base w wr ∧ Hid (GIn rs (Lf gs) (GG rows) T g d i T3)) (fun v _ => lx - (intOf v).toNat)
                case atStart => exact ⟨0, _, rfl, Nat.zero_le _, G3.out.1, below_tr BW.out G3.out.2, HE⟩
                case round =>
                  obtain ⟨i, T3, rfl, hi, hgi, hbw, hin⟩ := hrel
                  obtain ⟨wb, rfl⟩ : ∃ q, q = wr := ⟨_, rfl⟩
                  obtain ⟨k1, k2, k3, k4, k5⟩ := CS.out _ _ _ hgi
                  have Gi := Lib.hid hgi
                  have BI := Lib.hid hbw
                  clear hgi hbw
                  by_cases hli : i < lx
                  · have hliz : (i : Int) < (lx : Int) := by omega
                    have hix : i < rxs.length := by rw [HLX.out]; exact hli
                    have hin0 := Gi.out.giv.inner _ (List.mem_of_getElem? HR.out)
                    simp only at hin0
                    obtain ⟨xb, hxb, _⟩ := hin0.some_ (by omega)
                    subst hxb
                    obtain ⟨u, hu1, hu2, _⟩ := hin0.cellAt hix
                    obtain ⟨o, ho⟩ : ∃ o, rxs[i]? = some o := ⟨_, List.getElem?_eq_getElem hix⟩
                    rw [List.getElem?_map, ho] at hu1
                    injection hu1 with hu1
                    subst hu1
                    unfold nv at hu2
                    have HOo := Lib.hid (show (((GG rows).getD d []).getD i 0) = o by rw [HGr.out, List.getD_eq_getElem?_getD, ho]; rfl)
                    have hog : o < gs.length := ((GD.out.fit d (by rw [HL.out]; exact hlt)).2 o (by rw [HGr.out]; exact List.mem_of_getElem? ho)).1
                    have HC := Lib.hid (IH.out rows T3 o wb (by
                      have := un_lt (n := rs.length) hin.out.sub (by rw [HL.out]; exact hlt) hin.out.free hin.out.this
                      omega) hog GD.out Gi.out)
                    unfold GivePost at HC
                    clear ho hin0
                    have HTB := Lib.hid (show ∀ w2 rows' T', GiM w2 base p rs gs rows' T' → GTrue (GG rows) T3 o (GG rows') → ∃ xb' rc', rows'[d]? = some ⟨some ⟨xb', 0, none⟩, rc', rxs⟩ ∧ w2.cell? ⟨gO, d, none⟩ = some (.slice (some ⟨xb', 0, none⟩) lx rc') ∧
                        Own w2 base 3 1 (some ⟨xb', 0, none⟩) lx rc' (rxs.map nv) from fun w2 rows' T' h ht => by
                      have hdr : d < rows'.length := by rw [h.len, LN.out]; exact hlt
                      obtain ⟨⟨rA', rc', rxs'⟩, hr'⟩ : ∃ r, rows'[d]? = some r := ⟨_, List.getElem?_eq_getElem hdr⟩
                      have e := ht.kept d hin.out.this
                      rw [GG_at hr', HGr.out] at e
                      simp only at e
                      subst e
                      have hin2 := h.giv.inner _ (List.mem_of_getElem? hr')
                      simp only at hin2
                      obtain ⟨xb', hxb', _⟩ := hin2.some_ (by omega)
                      subst hxb'
                      obtain ⟨u, h1, h2, _⟩ := h.giv.own.cellAt hdr
                      rw [List.getElem?_map, hr'] at h1
                      injection h1 with h1
                      subst h1
                      rw [GO.out] at h2
                      unfold rwv at h2
                      rw [HLX.out] at h2 hin2
                      exact ⟨xb', rc', hr', h2, hin2⟩)
                    go_wp2_with (first
                      | ((with_reducible refine HC.out.mono ?_); rintro e w2 ⟨_ | _, rows', T', rfl, hgi', hbw', hgd', ht', hf'⟩; (have Gb := Lib.hid hgi'; have Bb := Lib.hid hbw'; have Fb := Lib.hid (hf' rfl); clear hgi' hbw' hgd' ht' hf'); rotate_left;
                          (have Gb := Lib.hid hgi'; have Bb := Lib.hid hbw'; have Db := Lib.hid hgd'; have Tb := Lib.hid (ht' rfl); obtain ⟨k6, k7, k8, k9, k10⟩ := CS.out _ _ _ hgi'; obtain ⟨xb', rc', hr', hc', ho'⟩ := HTB.out _ _ _ hgi' Tb.out; have RB := Lib.hid hr'; have OW := Lib.hid ho'; obtain ⟨u', _, kc', kf'⟩ := ho'.cellAt (k := i) hli; clear hgi' hbw' hgd' ht' hf' hr' ho'); rotate_left))
                    · go_roundw
                      case rel => exact ⟨i + 1, T', by go_num, by omega, by have h := Gb.out; rw [Fb.out.1] at h; exact h, below_tr BI.out Bb.out, Lib.hid (hin.out.next (by rw [HOo.out]; exact Fb.out.2))⟩
                      case measure => simp only [intOf]; omega
                    · obtain ⟨o1, o2⟩ := OW.out.set i (.int .i64 g)
                      have hl' : d < (GG rows').length := by rw [GG_len, Gb.out.len, LN.out]; exact hlt
                      have ex := GG_at RB.out
                      simp only at ex
                      have Gz := Gb.out.placed (g := g) RB.out rfl hix o2 (by rw [splice_one _ _ _ (by simpa using hix), HLX.out]; exact o1)
                      have HT2 := hin.out.put (by rw [HOo.out]; exact Tb.out) hl' (by rw [HGr.out]; exact hix)
                      go_ret
                      refine ⟨true, _, _, rfl, Gz, below_tr BI.out (below_tr Bb.out (below_gb o2 Gb.out.bx.hB ?_)), ?_, fun _ => ?_, fun h => by cases h⟩
                      · obtain ⟨gx, e, h⟩ := OW.out.some_ (by omega)
                        injection e with e; injection e with e; rw [e]; exact h
                      · rw [GG_set]
                        have := Db.out.put (i := i) (g := g) (d := d) (by rw [HL.out]; exact hlt) hg HNO.out
                        rw [ex] at this; exact this
                      · rw [GG_set]
                        rw [ex] at HT2; exact HT2
                  · have hil : i = lx := by omega
                    have HN := Lib.hid (show GLoop rs (Lf gs) (GG rows) T g (d + 1) T3 from GIn.leave (by rw [HGr.out, HLX.out, ← hil]; exact hin.out) (by rw [HGr.out, HLX.out, HX.out]; omega))
                    clear hin hil
                    go_wp2_with fail
                    go_roundw
                    case rel => exact ⟨d + 1, T3, by go_num, by omega, Gi.out, BI.out, HN⟩
                    case measure => simp only [intOf]; omega
            · have HN := Lib.hid (hlo.out.skip (.inr (.inr (by rw [HD.out]; exact (hasD_iff y d).1 HQ.out))))
              clear hlo
              go_wp2_with (first
                | ((with_reducible refine HH.out.mono ?_); rintro e w2 ⟨rfl, n2⟩)
                | ((with_reducible refine wpList_load_agg 37 _ (by with_unfolding_all exact rfl) (by with_unfolding_all exact rfl) (by with_unfolding_all exact rfl) (gc y) HCY.out _ Try.underlying37 (by with_unfolding_all exact rfl) (by rw [gc_len]; kernel_rfl) ?_))
                | ((with_reducible refine wpList_lookI MT63 _ _ (by with_unfolding_all exact rfl) (by with_unfolding_all exact rfl) (by with_unfolding_all exact rfl) d (by with_unfolding_all exact rfl) MM.out MT.out ?_)))
              go_roundw
              case rel => exact ⟨d + 1, T1, by go_num, by omega, G1.out.nw n2, below_tr BW.out (below_nw n2 G1.out.bx.hB), HN⟩
              case measure => simp only [intOf]; omega
          · have HN := Lib.hid (hlo.out.skip (.inr (.inl HT.out)))
            clear hlo
            go_wp2_with (first
              | ((with_reducible refine wpList_lookI MT63 _ _ (by with_unfolding_all exact rfl) (by with_unfolding_all exact rfl) (by with_unfolding_all exact rfl) d (by with_unfolding_all exact rfl) MM.out MT.out ?_)))
            go_roundw
            case rel => exact ⟨d + 1, T1, by go_num, by omega, G1.out, BW.out, HN⟩
            case measure => simp only [intOf]; omega
      · have hdn : d = n := by omega
        have HF := Lib.hid (show GFalse rs (Lf gs) (GG rows) T g T1 from GLoop.fin (by rw [HL.out, ← hdn]; exact hlo.out))
        clear hlo hdn
        go_wp2_with fail
        go_ret
        exact ⟨false, rows, T1, rfl, G1.out, BW.out, GD.out, fun h => (by cases h), fun _ => ⟨rfl, HF.out⟩⟩
end Go.Proofs.Ytobifmndpkjlmaa

