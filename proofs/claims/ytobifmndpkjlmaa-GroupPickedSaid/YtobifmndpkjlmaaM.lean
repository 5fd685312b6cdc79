/- The statements' few: at most sixteen groups, of at most six extents, on disks from 0 to 8. -/
import Derived.Test.YtobifmndpkjlmaaJ
import Derived.Test.YtobifmndpkjlmaaReg
namespace Go.Proofs.Ytobifmndpkjlmaa
open Go.RowKit Go.BW

/-- a group that came in: of any number of extents -/
structure GIo (w : World) (B : Nat) (x : Gp) : Prop where
  rd : Rd w B 2 x.A x.n (fl ec x.es)
  nc : x.n ≤ x.c
  cm : x.c ≤ maxLen
structure GsI (w : World) (B : Nat) (A : Option Addr) (n : Nat) (gs : List Gp) : Prop where
  rd : Rd w B 3 A n (fl gc gs)
  all : ∀ g ∈ gs, GIo w B g
section
variable {w w' : World} {B B' n : Nat} {A : Option Addr} {gs : List Gp} {x : Gp}
theorem GIo.len (h : GIo w B x) : x.es.length = x.n := h.rd.lenL ec_len (by decide)
theorem GIo.nw (h : GIo w B x) (k : Nw w w') (hB : B ≤ w.heap.size) : GIo w' B x := ⟨h.rd.nw k hB, h.nc, h.cm⟩
theorem GsI.len (h : GsI w B A n gs) : gs.length = n := h.rd.lenL gc_len (by decide)
theorem GsI.nw (h : GsI w B A n gs) (k : Nw w w') (hB : B ≤ w.heap.size) : GsI w' B A n gs := ⟨h.rd.nw k hB, fun g hg => (h.all g hg).nw k hB⟩
end
def fewX (e : Et) : Et := ⟨e.dk % 65536 % 9, e.pl⟩
def fewE (es : List Et) : List Et := (es.take 6).map fewX
def key (g : Gp) : Int × Int × List Et := (g.id, g.kd, g.es)
def fewK (g : Gp) : Int × Int × List Et := (g.id, g.kd, fewE g.es)
def fewP (gs : List Gp) : List (Int × Int × List Et) := (gs.take 16).map fewK
/-- groups whose rows are the call's own, each its own -/
structure GsO (w : World) (base : Nat) (gs : List Gp) : Prop where
  own : ∀ g ∈ gs, Own w base 39 2 g.A g.n g.c (fl ec g.es)
  apart : gs.Pairwise fun g h => ∀ x, (Value.slice g.A g.n g.c).ownBlock = some x → (Value.slice h.A h.n h.c).ownBlock ≠ some x
theorem GsO.nw {w w' : World} {base : Nat} {gs : List Gp} (h : GsO w base gs) (k : Nw w w') : GsO w' base gs := ⟨fun g hg => (h.own g hg).nw k, h.apart⟩
theorem GsO.nil {w : World} {base : Nat} : GsO w base [] := ⟨fun _ h => by simp at h, List.Pairwise.nil⟩
theorem GsO.snoc {w : World} {base : Nat} {gs : List Gp} {g : Gp} {b0 : Nat} (h : GsO w base gs) (hb : ∀ x ∈ gs, ∀ y, (Value.slice x.A x.n x.c).ownBlock = some y → y < b0) (hg : Own w b0 39 2 g.A g.n g.c (fl ec g.es)) (hbb : base ≤ b0) : GsO w base (gs ++ [g]) := by
  refine ⟨fun x hx => ?_, ?_⟩
  · rcases List.mem_append.1 hx with hx | hx
    · exact h.own x hx
    · rw [List.mem_singleton] at hx; subst hx; exact hg.more hbb
  · rw [List.pairwise_append]
    refine ⟨h.apart, List.pairwise_singleton _ _, fun a ha b hb' x hx e => ?_⟩
    rw [List.mem_singleton] at hb'; subst hb'
    have h1 := hb a ha x hx
    have h2 := hg.blk x e
    omega
theorem GsO.lt {w : World} {base : Nat} {gs : List Gp} (h : GsO w base gs) : ∀ x ∈ gs, ∀ y, (Value.slice x.A x.n x.c).ownBlock = some y → y < w.heap.size := fun x hx y hy => by
  obtain ⟨cur, hc⟩ := (h.own x hx).rowObj y hy
  exact hc.lt
theorem GsO.kept {w w' : World} {base : Nat} {gs : List Gp} {row : Option Nat} (h : GsO w base gs) (k : w.grownBy w' row) (hr : ∀ x, row = some x → ∃ cur, Obj1 w x 37 cur) : GsO w' base gs :=
  ⟨fun g hg => (h.own g hg).kept k (fun x hx e => by
    obtain ⟨c1, h1⟩ := hr x hx
    obtain ⟨c2, h2⟩ := (h.own g hg).rowObj _ e
    exact h1.ne h2 (by decide) rfl), h.apart⟩
def FewPost (gs : List Gp) (w : World) (e : Ending) (w' : World) : Prop :=
  ∃ A n c gs', e = .returned (.slice A n c) ∧ Own w' w.heap.size 37 3 A n c (fl gc gs') ∧ GsO w' w.heap.size gs' ∧ gs'.map key = fewP gs ∧ Nw w w'
theorem GsO.gsr {w : World} {base n c : Nat} {A : Option Addr} {gs : List Gp} (h : GsO w base gs) (ho : Own w base 37 3 A n c (fl gc gs)) (hn : ∀ g ∈ gs, g.n ≤ 1000000) : GsR w w.heap.size A n gs :=
  ⟨ho.rd, fun g hg => ⟨(h.own g hg).rd, (h.own g hg).cap.1, (h.own g hg).cap.2, hn g hg⟩⟩
theorem gb_drew_alloc (w : World) (o : Obj) : Nw w (w.drew.alloc o) := gb_trans (gb_drew (Nw.refl w)) (World.grownBy_alloc _ o none)
set_option maxHeartbeats 8000000 in
theorem few_any {w : World} {B m c2 : Nat} {A2 : Option Addr} {gs : List Gp} (hg : GsI w B A2 m gs) (hB : B ≤ w.heap.size) (hm : m ≤ 9223372036854775807) : Calls Try.prog 14 #[.slice A2 m c2] w (FewPost gs w) := by
  have hglen := hg.len
  have HG := Lib.hid hg; have HBW := Lib.hid hB; have HGL := Lib.hid hglen
  have H0 := Lib.hid (show Own (w.alloc (.cells #[] 37)) w.heap.size 37 3 (some ⟨w.heap.size, 0, none⟩) 0 0 [] from World.ownsRow_made w #[] 0 (Nat.le_refl _) (by simp) (by simp))
  clear hg hB hglen
  go_enter Try.func14, Try.ntmps14
  go_wp2_with fail
  go_loopw [3, 4] (fun s v wr => ∃ (k : Nat) (A' : Option Addr) (c' : Nat) (gs' : List Gp), v = .int .i64 k ∧ s = .slice A' k c' ∧ k ≤ 16 ∧ k ≤ m ∧ Hid (Own wr w.heap.size 37 3 A' k c' (fl gc gs')) ∧ Hid (GsO wr w.heap.size gs') ∧ Hid (gs'.map key = (gs.take k).map fewK) ∧ Nw w wr) (fun _ v _ => m - (intOf v).toNat)
  case atStart => exact ⟨0, some ⟨w.heap.size, 0, none⟩, 0, [], rfl, rfl, Nat.zero_le _, Nat.zero_le _, Lib.hid H0.out, Lib.hid GsO.nil, Lib.hid rfl, World.grownBy_alloc w _ none⟩
  case round =>
    obtain ⟨k, A', c', gs', rfl, rfl, hk, hkm, ho, hgo, hke, hnw⟩ := hrel
    obtain ⟨wa, rfl⟩ : ∃ q, q = wr := ⟨_, rfl⟩
    by_cases hlt : k < m
    · have hltz : (k : Int) < (m : Int) := by omega
      by_cases h16 : k < 16
      · have h16z : (k : Int) < 16 := by omega
        have HG3 := Lib.hid (HG.out.nw hnw HBW.out)
        have HB3 := Lib.hid (Nat.le_trans HBW.out hnw.size)
        obtain ⟨_, b, off, x, hA, hbB, hx, _⟩ := HG3.out.rd.atL gc_len (by decide) hlt
        subst hA
        have HC := Lib.hid (show ∀ w', Nw wa w' → w'.cell? ⟨b, off + k * 3, none⟩ = some (.int .i64 x.id) ∧ w'.cell? ⟨b, off + k * 3 + 1, none⟩ = some (.int .i64 x.kd) ∧ w'.cell? ⟨b, off + k * 3 + 2, none⟩ = some (.slice x.A x.n x.c) from fun w' hw => by
          obtain ⟨_, b2, off2, x2, e, _, hx2, hc2⟩ := (HG3.out.rd.nw hw HB3.out).atL gc_len (by decide) hlt
          injection e with e; injection e with e1 e2; subst e1; subst e2
          have : x2 = x := by rw [hx] at hx2; injection hx2 with hx2; exact hx2.symm
          subst this
          exact ⟨hc2 0 _ rfl, hc2 1 _ rfl, hc2 2 _ rfl⟩)
        have HOK := Lib.hid (HG3.out.all x (List.mem_of_getElem? hx))
        have HX := Lib.hid hx
        clear hx
        obtain ⟨xi, xk, xA, xn, xc, xe⟩ := x
        simp only at HC
        have HS := Lib.hid (show ∀ w', Nw wa w' → w'.cell? ⟨b, off + k * 3, none⟩ = some (.int .i64 xi) ∧ w'.cell? ⟨b, off + k * 3 + 1, none⟩ = some (.int .i64 xk) from fun w' hw => ⟨(HC.out w' hw).1, (HC.out w' hw).2.1⟩)
        go_wp2_with fail
        refine wp_region_held (S := (fun w' => w'.cell? ⟨b, off + k * 3, none⟩ = some (.int .i64 xi) ∧ w'.cell? ⟨b, off + k * 3 + 1, none⟩ = some (.int .i64 xk))) (by kernel_rfl) ?_
        change wpAnyH _ _ _ _ _ _ _ _ (World.drew wa)
        refine held_seg' (l := [0, 1, 2, 3, 4, 5, 6, 7, 8, 9, 10]) (fuel := 2) rfl (by kernel_rfl) (by kernel_rfl) (by simp only [List.filterMap_cons, List.filterMap_nil, List.getElem?_toArray, List.getElem?_cons_succ, List.getElem?_cons_zero]; rfl) (fun _ _ d _ _ h => by cases d <;> exact h) (HS.out wa (Nw.refl wa)) ?_
        iterate 11 (refine wpYield_step rfl (fun K hK => ?_)
                    apply Exists.intro
                    refine ⟨fun w' hw' => ?_, ?_⟩
                    · (go_simp; try with_reducible rfl)
                    go_simp
                    refine hK _ ?_
                    clear hK K)
        refine wpYield_nil ?_
        refine held_eff 11 rfl (by kernel_rfl) rfl (fun K hK => ?_)
        go_simp
        refine hK _ _ ⟨HS.out _ (gb_drew (World.grownBy_alloc wa _ none)), ?_⟩
        clear hK K
        refine held_eff 12 rfl (by kernel_rfl) rfl (fun K hK => ?_)
        go_simp
        refine hK _ _ ⟨HS.out _ (gb_drew (World.grownBy_alloc wa _ none)), ?_⟩
        clear hK K
        refine wpAnyH_done (by kernel_rfl) ?_ _
        have hbx : Obj1 (wa.alloc (.cells #[.int .i64 xi, .int .i64 xk, .slice none 0 0] 37)).drew wa.heap.size 37 #[.int .i64 xi, .int .i64 xk, .slice none 0 0] := Obj1.new wa 37 _
        have hn1 := gb_drew (World.grownBy_alloc wa (.cells #[.int .i64 xi, .int .i64 xk, .slice none 0 0] 37) none)
        obtain ⟨W, hW⟩ : ∃ W, (wa.alloc (.cells #[.int .i64 xi, .int .i64 xk, .slice none 0 0] 37)).drew = W := ⟨_, rfl⟩
        obtain ⟨y, hy⟩ : ∃ y, wa.heap.size = y := ⟨_, rfl⟩
        rw [hW] at hbx hn1 ⊢
        rw [hy] at hbx ⊢
        have HY := Lib.hid hy
        have HBX := Lib.hid hbx
        clear hW hy hbx
        go_wp2_with fail
        go_loopw [6] (fun v wr => ∃ (j : Nat) (A3 : Option Addr) (c3 : Nat), v = .int .i64 j ∧ j ≤ 6 ∧ j ≤ xn ∧ Obj1 wr y 37 #[.int .i64 xi, .int .i64 xk, .slice A3 j c3] ∧ Hid (Own wr y 39 2 A3 j c3 (fl ec ((xe.take j).map fewX))) ∧ Nw wa wr) (fun v _ => xn - (intOf v).toNat)
        case atStart => exact ⟨0, none, 0, rfl, by omega, Nat.zero_le _, HBX.out, Lib.hid Own.nil, hn1⟩
        case round =>
          obtain ⟨j, A3, c3, rfl, hj6, hjn, hbx, how, hnw2⟩ := hrel
          have hcx := (HC.out wr hnw2).2.2
          by_cases hl2 : j < xn
          · have hl2z : (j : Int) < (xn : Int) := by omega
            by_cases h6 : j < 6
            · have h6z : (j : Int) < 6 := by omega
              have HOK2 := Lib.hid (HOK.out.nw hnw2 HB3.out)
              have HB4 := Lib.hid (Nat.le_trans HB3.out hnw2.size)
              obtain ⟨_, eb, eo, q, hA, _, hq, _⟩ := HOK2.out.rd.atL ec_len (by decide) hl2
              simp only at hA
              subst hA
              have HC2 := Lib.hid (show ∀ w', Nw wa w' → w'.cell? ⟨b, off + k * 3 + 2, none⟩ = some (.slice (some ⟨eb, eo, none⟩) xn xc) ∧ w'.cell? ⟨eb, eo + j * 2, none⟩ = some (.int .i64 q.dk) ∧ w'.cell? ⟨eb, eo + j * 2 + 1, none⟩ = some (.int .i64 q.pl) from fun w' hw => by
                obtain ⟨_, b2, off2, x2, e, _, hx2, hc2⟩ := (HOK.out.rd.nw hw HB3.out).atL ec_len (by decide) hl2
                simp only at e
                injection e with e; injection e with e1 e2; subst e1; subst e2
                have : x2 = q := by rw [hq] at hx2; injection hx2 with hx2; exact hx2.symm
                subst this
                exact ⟨(HC.out w' hw).2.2, hc2 0 _ rfl, hc2 1 _ rfl⟩)
              have HT := Lib.hid (show (xe.take (j + 1)).map fewX = (xe.take j).map fewX ++ [fewX q] by
                obtain ⟨hk2, rfl⟩ := List.getElem?_eq_some_iff.1 hq
                rw [List.take_succ_eq_append_getElem hk2, List.map_append]; rfl)
              have HBX2 := Lib.hid hbx
              have HYW := Lib.hid hbx.lt
              obtain ⟨qd, qp⟩ := q
              simp only at HC2
              have e1 : bits .and .i64 qd 65535 = qd % 65536 := and_mask qd 16 (by decide)
              have e2 : (qd % 65536).tmod 9 = qd % 65536 % 9 := Int.tmod_eq_emod_of_nonneg (Int.emod_nonneg _ (by decide))
              have e3 : fewX ⟨qd, qp⟩ = ⟨qd % 65536 % 9, qp⟩ := rfl
              rw [e3] at HT
              obtain ⟨u, hu⟩ : ∃ u, qd % 65536 % 9 = u := ⟨_, rfl⟩
              have hu1 : 0 ≤ u ∧ u < 9 := by omega
              rw [hu] at e2 HT
              have e4 : IntKind.i64.wrap u = u := by rw [IntKind.wrap_i64]; omega
              clear hq e3 hu
              go_wp2_with fail
              clear hcx hbx
              refine wp_region_U [26] (fun w' => w'.cell? ⟨y, 2, none⟩ = some (.slice A3 j c3) ∧ w'.cell? ⟨b, off + k * 3 + 2, none⟩ = some (.slice (some ⟨eb, eo, none⟩) xn xc) ∧ w'.cell? ⟨eb, eo + j * 2, none⟩ = some (.int .i64 qd) ∧ w'.cell? ⟨eb, eo + j * 2 + 1, none⟩ = some (.int .i64 qp)) (by kernel_rfl) ?_
              change wpU _ _ _ _ _ _ _ _ _ (World.drew wr)
              refine U_segL (r := [0, 1, 2, 3, 4, 5, 6, 7, 8, 9, 10, 11, 12, 13, 14, 15, 16, 17, 18, 19, 20, 21, 22]) (fuel := 4) rfl (by kernel_rfl) (by kernel_rfl) (by simp only [List.filterMap_cons, List.filterMap_nil, List.getElem?_toArray, List.getElem?_cons_succ, List.getElem?_cons_zero]; rfl) (fun _ _ d _ _ h => by cases d <;> exact h) (And.intro (HBX2.out.cell 2) (HC2.out _ (gb_drew hnw2))) ?_
              iterate 23 (refine wpYield_step rfl (fun K hK => ?_)
                          apply Exists.intro
                          refine ⟨fun w' hw' => ?_, ?_⟩
                          · (go_simp; try with_reducible rfl)
                          go_simp
                          refine hK _ ?_
                          clear hK K)
              refine wpYield_nil ?_
              refine U_eff 23 rfl (by kernel_rfl) rfl (fun K hK => ?_)
              go_simp
              refine hK _ _ ⟨until_of (And.intro (cell_alloc (HBX2.out.cell 2)) (HC2.out _ (gb_trans hnw2 (gb_drew_alloc wr _)))), ?_⟩
              clear hK K
              refine U_eff 24 rfl (by kernel_rfl) rfl (fun K hK => ?_)
              refine wp_app_own T35 _ _ rfl rfl rfl (World.ownsRow.alloc (how.out.drew) _) (rd_litN [.int .i64 u, .int .i64 qp] 39 2 rfl) (by intro v hv; simp at hv; rcases hv with rfl | rfl <;> rfl) (by unfold maxLen; omega) (Nat.le_trans (Nat.le_of_lt HYW.out) (gb_drew_alloc wr _).size) ?_
              intro A4 c4 w5 h2 h3 h4
              have K1 := Lib.hid (show wr.grownBy w5 (Value.slice A3 j c3).ownBlock from gb_of_drew (gb_trans (World.grownBy_alloc _ _ _) h3))
              have NW5 := Lib.hid (show Nw wa w5 from nw_of_gb hnw2 K1.out (fun z hz => by rw [HY.out]; exact how.out.blk z hz))
              have BX5 := Lib.hid (show Obj1 w5 y 37 #[.int .i64 xi, .int .i64 xk, .slice A3 j c3] from HBX2.out.eq (K1.out.block _ HBX2.out.lt fun e => by
                obtain ⟨cur, hc⟩ := how.out.rowObj _ e.symm
                exact hc.ne HBX2.out (by decide) rfl))
              have H2 := Lib.hid h2
              clear h2 h3 h4
              refine hK _ _ ⟨until_of (And.intro (BX5.out.cell 2) (HC2.out _ NW5.out)), ?_⟩
              clear hK K
              refine U_segL (r := [25]) (fuel := 1) rfl (by kernel_rfl) (by kernel_rfl) (by simp only [List.filterMap_cons, List.filterMap_nil, List.getElem?_toArray, List.getElem?_cons_succ, List.getElem?_cons_zero]; rfl) (fun _ _ d _ _ h => by cases d <;> exact h) (And.intro (BX5.out.cell 2) (HC2.out _ NW5.out)) ?_
              (refine wpYield_step rfl (fun K hK => ?_)
               apply Exists.intro
               refine ⟨fun w' hw' => ?_, ?_⟩
               · (go_simp; try with_reducible rfl)
               go_simp
               refine hK _ ?_
               clear hK K)
              refine wpYield_nil ?_
              refine U_eff 26 rfl (by kernel_rfl) rfl (fun K hK => ?_)
              have e0 := BX5.out.cell 2; have f0 := BX5.out.frozen 2
              go_simp
              refine hK _ _ ⟨until_past (by kernel_rfl), ?_⟩
              clear hK K
              refine U_done (by kernel_rfl) ?_ _
              have BX6 := BX5.out.set 2 (.slice A4 (j + 1) c4)
              have G6 : w5.grownBy (w5.setCell ⟨y, 2, none⟩ (.slice A4 (j + 1) c4)) (some y) := gb_set (gb_nw (Nw.refl w5)) (.inl rfl) _
              have O6 := H2.out.kept G6 (fun r hr e => by
                injection hr with hr; subst hr
                obtain ⟨cur, hc⟩ := H2.out.rowObj _ e
                exact hc.ne BX5.out (by decide) rfl)
              have N6 := nw_of_gb NW5.out G6 (fun z hz => by injection hz with hz; subst hz; rw [HY.out]; exact Nat.le_refl _)
              obtain ⟨w6, hw6⟩ : ∃ w6, w5.setCell ⟨y, 2, none⟩ (.slice A4 (j + 1) c4) = w6 := ⟨_, rfl⟩
              rw [hw6] at BX6 O6 N6 ⊢
              clear hw6 G6 e0 f0
              go_wp2_with fail
              go_roundw
              case rel => exact ⟨j + 1, A4, c4, by go_num, by omega, by omega, BX6, Lib.hid (by rw [HT.out, fl_app, fl_one]; exact O6), N6⟩
              case measure => simp only [intOf]; omega
            · have d6 : decide ((j : Int) < 6) = false := decide_eq_false (by omega)
              have hfe : (xe.take j).map fewX = fewE xe := by unfold fewE; rw [show j = 6 by omega]
              have HE := Lib.hid hfe
              have hsm : (k + 1) * 40 ≤ 140737488355328 ∧ k + 1 ≤ maxLen := by unfold maxLen; omega
              have HBX3 := Lib.hid hbx
              have HO3 := Lib.hid (ho.out.nw hnw2)
              have HSZ := Lib.hid (Nat.le_trans hnw.size hnw2.size)
              clear hfe hbx
              go_wp2_with (first
                | (at_builtin; (with_reducible refine wpList_appN_own T28 _ _ (by with_unfolding_all exact rfl) (by with_unfolding_all exact rfl) (by with_unfolding_all exact rfl) (by with_unfolding_all exact rfl) HO3.out (by with_unfolding_all exact rfl) (gc_one1 _ _ _ _ _) hsm HSZ.out ?_); intro A4 c4 w3 h2 h3 h4)
                | ((with_reducible refine wpList_load_obj 37 _ (by with_unfolding_all exact rfl) (by with_unfolding_all exact rfl) (by with_unfolding_all exact rfl) HBX3.out _ Try.underlying37 (by with_unfolding_all exact rfl) (by kernel_rfl) ?_)))
              go_roundw
              case rel =>
                refine ⟨k + 1, A4, c4, gs' ++ [⟨xi, xk, A3, j, c3, fewE xe⟩], by go_num, rfl, by omega, by omega, Lib.hid (by rw [fl_app, fl_one']; exact h2), Lib.hid ?_, Lib.hid ?_, nw_of_gb (gb_trans hnw hnw2) h3 (fun g hg => ho.out.blk g hg)⟩
                · refine GsO.kept (GsO.snoc (b0 := y) (hgo.out.nw hnw2) (fun x hx z hz => by rw [← HY.out]; exact hgo.out.lt x hx z hz) (by rw [← HE.out]; exact how.out) (by rw [← HY.out]; exact hnw.size)) h3 (fun x hx => HO3.out.rowObj x hx)
                · obtain ⟨hk2, e⟩ := List.getElem?_eq_some_iff.1 HX.out
                  rw [List.map_append, hke.out, List.take_succ_eq_append_getElem hk2, List.map_append, e]; rfl
              case measure => simp only [intOf]; omega
          · have hfe : (xe.take j).map fewX = fewE xe := by
              have hl := HOK.out.len
              simp only at hl
              unfold fewE; rw [List.take_of_length_le (by omega), List.take_of_length_le (by omega)]
            have HE := Lib.hid hfe
            have hsm : (k + 1) * 40 ≤ 140737488355328 ∧ k + 1 ≤ maxLen := by unfold maxLen; omega
            have HBX3 := Lib.hid hbx
            have HO3 := Lib.hid (ho.out.nw hnw2)
            have HSZ := Lib.hid (Nat.le_trans hnw.size hnw2.size)
            clear hfe hbx
            go_wp2_with (first
              | (at_builtin; (with_reducible refine wpList_appN_own T28 _ _ (by with_unfolding_all exact rfl) (by with_unfolding_all exact rfl) (by with_unfolding_all exact rfl) (by with_unfolding_all exact rfl) HO3.out (by with_unfolding_all exact rfl) (gc_one1 _ _ _ _ _) hsm HSZ.out ?_); intro A4 c4 w3 h2 h3 h4)
              | ((with_reducible refine wpList_load_obj 37 _ (by with_unfolding_all exact rfl) (by with_unfolding_all exact rfl) (by with_unfolding_all exact rfl) HBX3.out _ Try.underlying37 (by with_unfolding_all exact rfl) (by kernel_rfl) ?_)))
            go_roundw
            case rel =>
              refine ⟨k + 1, A4, c4, gs' ++ [⟨xi, xk, A3, j, c3, fewE xe⟩], by go_num, rfl, by omega, by omega, Lib.hid (by rw [fl_app, fl_one']; exact h2), Lib.hid ?_, Lib.hid ?_, nw_of_gb (gb_trans hnw hnw2) h3 (fun g hg => ho.out.blk g hg)⟩
              · refine GsO.kept (GsO.snoc (b0 := y) (hgo.out.nw hnw2) (fun x hx z hz => by rw [← HY.out]; exact hgo.out.lt x hx z hz) (by rw [← HE.out]; exact how.out) (by rw [← HY.out]; exact hnw.size)) h3 (fun x hx => HO3.out.rowObj x hx)
              · obtain ⟨hk2, e⟩ := List.getElem?_eq_some_iff.1 HX.out
                rw [List.map_append, hke.out, List.take_succ_eq_append_getElem hk2, List.map_append, e]; rfl
            case measure => simp only [intOf]; omega
      · have d16 : decide ((k : Int) < 16) = false := decide_eq_false (by omega)
        have HF := Lib.hid (show gs'.map key = fewP gs by rw [hke.out, show k = 16 by omega]; rfl)
        go_wp2
        go_ret
        exact ⟨A', k, c', gs', rfl, ho.out, hgo.out, HF.out, hnw⟩
    · have HF := Lib.hid (show gs'.map key = fewP gs by
        unfold fewP
        rw [hke.out, List.take_of_length_le (show gs.length ≤ k by rw [HGL.out]; omega), List.take_of_length_le (show gs.length ≤ 16 by rw [HGL.out]; omega)])
      go_wp2
      go_ret
      exact ⟨A', k, c', gs', rfl, ho.out, hgo.out, HF.out, hnw⟩
end Go.Proofs.Ytobifmndpkjlmaa

