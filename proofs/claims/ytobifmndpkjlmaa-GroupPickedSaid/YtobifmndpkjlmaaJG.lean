/- The statements' few: at most sixteen groups, of at most six extents, on disks from 0 to 8. -/
import Derived.Test.YtobifmndpkjlmaaJF
import Derived.Test.YtobifmndpkjlmaaJA
import Derived.Carry
set_option linter.unusedVariables false
set_option linter.unusedSimpArgs false
/- The statements' few: at most sixteen groups, of at most six extents, on disks from 0 to 8. -/
namespace Go.Proofs.Ytobifmndpkjlmaa
open Go.RowKit Go.BW

/-- a group that came in: of any number of extents -/
structure GIo (w : World) (B : Nat) (x : Gp) : Prop where
  rd : Rd w B 2 x.A x.n (fl ec x.es)
  nc : x.n ≤ x.c
  cm : x.c ≤ maxLen
structure GsI (w : World) (B : Nat) (A : Option Addr) (n : Nat) (gs : List Gp) : Prop where
  rd : Rd w B 3 A n (fl gc gs)
  all : ∀ g ∈ gs, GIo w B g
section
variable {w w' : World} {B B' n : Nat} {A : Option Addr} {gs : List Gp} {x : Gp}
theorem GIo.len (h : GIo w B x) : x.es.length = x.n := h.rd.lenL ec_len (by decide)
theorem GIo.nw (h : GIo w B x) (k : Nw w w') (hB : B ≤ w.heap.size) : GIo w' B x := ⟨h.rd.nw k hB, h.nc, h.cm⟩
theorem GsI.len (h : GsI w B A n gs) : gs.length = n := h.rd.lenL gc_len (by decide)
theorem GsI.nw (h : GsI w B A n gs) (k : Nw w w') (hB : B ≤ w.heap.size) : GsI w' B A n gs := ⟨h.rd.nw k hB, fun g hg => (h.all g hg).nw k hB⟩
end
def fewX (e : Et) : Et := ⟨e.dk % 65536 % 9, e.pl⟩
def fewE (es : List Et) : List Et := (es.take 6).map fewX
def key (g : Gp) : Int × Int × List Et := (g.id, g.kd, g.es)
def fewK (g : Gp) : Int × Int × List Et := (g.id, g.kd, fewE g.es)
def fewP (gs : List Gp) : List (Int × Int × List Et) := (gs.take 16).map fewK
/-- groups whose rows are the call's own, each its own -/
structure GsO (w : World) (base : Nat) (gs : List Gp) : Prop where
  own : ∀ g ∈ gs, Own w base 39 2 g.A g.n g.c (fl ec g.es)
  apart : gs.Pairwise fun g h => ∀ x, (Value.slice g.A g.n g.c).ownBlock = some x → (Value.slice h.A h.n h.c).ownBlock ≠ some x
theorem GsO.nw {w w' : World} {base : Nat} {gs : List Gp} (h : GsO w base gs) (k : Nw w w') : GsO w' base gs := ⟨fun g hg => (h.own g hg).nw k, h.apart⟩
theorem GsO.nil {w : World} {base : Nat} : GsO w base [] := ⟨fun _ h => by simp at h, List.Pairwise.nil⟩
theorem GsO.snoc {w : World} {base : Nat} {gs : List Gp} {g : Gp} {b0 : Nat} (h : GsO w base gs) (hb : ∀ x ∈ gs, ∀ y, (Value.slice x.A x.n x.c).ownBlock = some y → y < b0) (hg : Own w b0 39 2 g.A g.n g.c (fl ec g.es)) (hbb : base ≤ b0) : GsO w base (gs ++ [g]) := by
  refine ⟨fun x hx => ?_, ?_⟩
  · rcases List.mem_append.1 hx with hx | hx
    · exact h.own x hx
    · rw [List.mem_singleton] at hx; subst hx; exact hg.more hbb
  · rw [List.pairwise_append]
    refine ⟨h.apart, List.pairwise_singleton _ _, fun a ha b hb' x hx e => ?_⟩
    rw [List.mem_singleton] at hb'; subst hb'
    have h1 := hb a ha x hx
    have h2 := hg.blk x e
    omega
theorem GsO.lt {w : World} {base : Nat} {gs : List Gp} (h : GsO w base gs) : ∀ x ∈ gs, ∀ y, (Value.slice x.A x.n x.c).ownBlock = some y → y < w.heap.size := fun x hx y hy => by
  obtain ⟨cur, hc⟩ := (h.own x hx).rowObj y hy
  exact hc.lt
theorem GsO.kept {w w' : World} {base : Nat} {gs : List Gp} {row : Option Nat} (h : GsO w base gs) (k : w.grownBy w' row) (hr : ∀ x, row = some x → ∃ cur, Obj1 w x 37 cur) : GsO w' base gs :=
  ⟨fun g hg => (h.own g hg).kept k (fun x hx e => by
    obtain ⟨c1, h1⟩ := hr x hx
    obtain ⟨c2, h2⟩ := (h.own g hg).rowObj _ e
    exact h1.ne h2 (by decide) rfl), h.apart⟩
def FewPost (gs : List Gp) (w : World) (e : Ending) (w' : World) : Prop :=
  ∃ A n c gs', e = .returned (.slice A n c) ∧ Own w' w.heap.size 37 3 A n c (fl gc gs') ∧ GsO w' w.heap.size gs' ∧ gs'.map key = fewP gs ∧ Nw w w'
theorem GsO.gsr {w : World} {base n c : Nat} {A : Option Addr} {gs : List Gp} (h : GsO w base gs) (ho : Own w base 37 3 A n c (fl gc gs)) (hn : ∀ g ∈ gs, g.n ≤ 1000000) : GsR w w.heap.size A n gs :=
  ⟨ho.rd, fun g hg => ⟨(h.own g hg).rd, (h.own g hg).cap.1, (h.own g hg).cap.2, hn g hg⟩⟩
theorem gb_drew_alloc (w : World) (o : Obj) : Nw w (w.drew.alloc o) := gb_trans (gb_drew (Nw.refl w)) (World.grownBy_alloc _ o none)
set_option maxHeartbeats 8000000 in
theorem few_any {w : World} {B m c2 : Nat} {A2 : Option Addr} {gs : List Gp} (hg : GsI w B A2 m gs) (hB : B ≤ w.heap.size) (hm : m ≤ 9223372036854775807) : Calls Try.prog 14 #[.slice A2 m c2] w (FewPost gs w) := by
  have hglen := hg.len
  have HG := Lib.hid hg; have HBW := Lib.hid hB; have HGL := Lib.hid hglen
  have H0 := Lib.hid (show Own (w.alloc (.cells #[] 37)) w.heap.size 37 3 (some ⟨w.heap.size, 0, none⟩) 0 0 [] from World.ownsRow_made w #[] 0 (Nat.le_refl _) (by simp) (by simp))
  clear hg hB hglen
  go_enter Try.func14, Try.ntmps14
  go_wp2_with fail
  go_loopw [3, 4] (fun s v wr => ∃ (k : Nat) (A' : Option Addr) (c' : Nat) (gs' : List Gp), v = .int .i64 k ∧ s = .slice A' k c' ∧ k ≤ 16 ∧ k ≤ m ∧ Hid (Own wr w.heap.size 37 3 A' k c' (fl gc gs')) ∧ Hid (GsO wr w.heap.size gs') ∧ Hid (gs'.map key = (gs.take k).map fewK) ∧ Nw w wr) (fun _ v _ => m - (intOf v).toNat)
  case atStart => exact ⟨0, some ⟨w.heap.size, 0, none⟩, 0, [], rfl, rfl, Nat.zero_le _, Nat.zero_le _, Lib.hid H0.out, Lib.hid GsO.nil, Lib.hid rfl, World.grownBy_alloc w _ none⟩
  case round =>
    obtain ⟨k, A', c', gs', rfl, rfl, hk, hkm, ho, hgo, hke, hnw⟩ := hrel
    obtain ⟨wa, rfl⟩ : ∃ q, q = wr := ⟨_, rfl⟩
    by_cases hlt : k < m
    · have hltz : (k : Int) < (m : Int) := by omega
      by_cases h16 : k < 16
      · have h16z : (k : Int) < 16 := by omega
        have HG3 := Lib.hid (HG.out.nw hnw HBW.out)
        have HB3 := Lib.hid (Nat.le_trans HBW.out hnw.size)
        obtain ⟨_, b, off, x, hA, hbB, hx, _⟩ := HG3.out.rd.atL gc_len (by decide) hlt
        subst hA
        have HC := Lib.hid (show ∀ w', Nw wa w' → w'.cell? ⟨b, off + k * 3, none⟩ = some (.int .i64 x.id) ∧ w'.cell? ⟨b, off + k * 3 + 1, none⟩ = some (.int .i64 x.kd) ∧ w'.cell? ⟨b, off + k * 3 + 2, none⟩ = some (.slice x.A x.n x.c) from fun w' hw => by
          obtain ⟨_, b2, off2, x2, e, _, hx2, hc2⟩ := (HG3.out.rd.nw hw HB3.out).atL gc_len (by decide) hlt
          injection e with e; injection e with e1 e2; subst e1; subst e2
          have : x2 = x := by rw [hx] at hx2; injection hx2 with hx2; exact hx2.symm
          subst this
          exact ⟨hc2 0 _ rfl, hc2 1 _ rfl, hc2 2 _ rfl⟩)
        have HOK := Lib.hid (HG3.out.all x (List.mem_of_getElem? hx))
        have HX := Lib.hid hx
        clear hx
        obtain ⟨xi, xk, xA, xn, xc, xe⟩ := x
        simp only at HC
        have HS := Lib.hid (show ∀ w', Nw wa w' → w'.cell? ⟨b, off + k * 3, none⟩ = some (.int .i64 xi) ∧ w'.cell? ⟨b, off + k * 3 + 1, none⟩ = some (.int .i64 xk) from fun w' hw => ⟨(HC.out w' hw).1, (HC.out w' hw).2.1⟩)
        go_wp2_with fail
        refine wp_region_held (S := (fun w' => w'.cell? ⟨b, off + k * 3, none⟩ = some (.int .i64 xi) ∧ w'.cell? ⟨b, off + k * 3 + 1, none⟩ = some (.int .i64 xk))) (by kernel_rfl) ?_
        change wpAnyH _ _ _ _ _ _ _ _ (World.drew wa)
        refine held_seg' (l := [0, 1, 2, 3, 4, 5, 6, 7, 8, 9, 10]) (fuel := 2) rfl (by kernel_rfl) (by kernel_rfl) (by simp only [List.filterMap_cons, List.filterMap_nil, List.getElem?_toArray, List.getElem?_cons_succ, List.getElem?_cons_zero]; rfl) (fun _ _ d _ _ h => by cases d <;> exact h) (HS.out wa (Nw.refl wa)) ?_
        iterate 11 (refine wpYield_step rfl (fun K hK => ?_)
                    apply Exists.intro
                    refine ⟨fun w' hw' => ?_, ?_⟩
                    · (go_simp; try with_reducible rfl)
                    go_simp
                    refine hK _ ?_
                    clear hK K)
        refine wpYield_nil ?_
        refine held_eff 11 rfl (by kernel_rfl) rfl (fun K hK => ?_)
        go_simp
        refine hK _ _ ⟨HS.out _ (gb_drew (World.grownBy_alloc wa _ none)), ?_⟩
        clear hK K
        refine held_eff 12 rfl (by kernel_rfl) rfl (fun K hK => ?_)
        go_simp
        refine hK _ _ ⟨HS.out _ (gb_drew (World.grownBy_alloc wa _ none)), ?_⟩
        clear hK K
        refine wpAnyH_done (by kernel_rfl) ?_ _
        have hbx : Obj1 (wa.alloc (.cells #[.int .i64 xi, .int .i64 xk, .slice none 0 0] 37)).drew wa.heap.size 37 #[.int .i64 xi, .int .i64 xk, .slice none 0 0] := Obj1.new wa 37 _
        have hn1 := gb_drew (World.grownBy_alloc wa (.cells #[.int .i64 xi, .int .i64 xk, .slice none 0 0] 37) none)
        obtain ⟨W, hW⟩ : ∃ W, (wa.alloc (.cells #[.int .i64 xi, .int .i64 xk, .slice none 0 0] 37)).drew = W := ⟨_, rfl⟩
        obtain ⟨y, hy⟩ : ∃ y, wa.heap.size = y := ⟨_, rfl⟩
        rw [hW] at hbx hn1 ⊢
        rw [hy] at hbx ⊢
        have HY := Lib.hid hy
        have HBX := Lib.hid hbx
        clear hW hy hbx
        go_wp2_with fail
        go_loopw [6] (fun v wr => ∃ (j : Nat) (A3 : Option Addr) (c3 : Nat), v = .int .i64 j ∧ j ≤ 6 ∧ j ≤ xn ∧ Obj1 wr y 37 #[.int .i64 xi, .int .i64 xk, .slice A3 j c3] ∧ Hid (Own wr y 39 2 A3 j c3 (fl ec ((xe.take j).map fewX))) ∧ Nw wa wr) (fun v _ => xn - (intOf v).toNat)
        case atStart => exact ⟨0, none, 0, rfl, by omega, Nat.zero_le _, HBX.out, Lib.hid Own.nil, hn1⟩
        case round =>
          obtain ⟨j, A3, c3, rfl, hj6, hjn, hbx, how, hnw2⟩ := hrel
          have hcx := (HC.out wr hnw2).2.2
          by_cases hl2 : j < xn
          · have hl2z : (j : Int) < (xn : Int) := by omega
            by_cases h6 : j < 6
            · have h6z : (j : Int) < 6 := by omega
              have HOK2 := Lib.hid (HOK.out.nw hnw2 HB3.out)
              have HB4 := Lib.hid (Nat.le_trans HB3.out hnw2.size)
              obtain ⟨_, eb, eo, q, hA, _, hq, _⟩ := HOK2.out.rd.atL ec_len (by decide) hl2
              simp only at hA
              subst hA
              have HC2 := Lib.hid (show ∀ w', Nw wa w' → w'.cell? ⟨b, off + k * 3 + 2, none⟩ = some (.slice (some ⟨eb, eo, none⟩) xn xc) ∧ w'.cell? ⟨eb, eo + j * 2, none⟩ = some (.int .i64 q.dk) ∧ w'.cell? ⟨eb, eo + j * 2 + 1, none⟩ = some (.int .i64 q.pl) from fun w' hw => by
                obtain ⟨_, b2, off2, x2, e, _, hx2, hc2⟩ := (HOK.out.rd.nw hw HB3.out).atL ec_len (by decide) hl2
                simp only at e
                injection e with e; injection e with e1 e2; subst e1; subst e2
                have : x2 = q := by rw [hq] at hx2; injection hx2 with hx2; exact hx2.symm
                subst this
                exact ⟨(HC.out w' hw).2.2, hc2 0 _ rfl, hc2 1 _ rfl⟩)
              have HT := Lib.hid (show (xe.take (j + 1)).map fewX = (xe.take j).map fewX ++ [fewX q] by
                obtain ⟨hk2, rfl⟩ := List.getElem?_eq_some_iff.1 hq
                rw [List.take_succ_eq_append_getElem hk2, List.map_append]; rfl)
              have HBX2 := Lib.hid hbx
              have HYW := Lib.hid hbx.lt
              obtain ⟨qd, qp⟩ := q
              simp only at HC2
              have e1 : bits .and .i64 qd 65535 = qd % 65536 := and_mask qd 16 (by decide)
              have e2 : (qd % 65536).tmod 9 = qd % 65536 % 9 := Int.tmod_eq_emod_of_nonneg (Int.emod_nonneg _ (by decide))
              have e3 : fewX ⟨qd, qp⟩ = ⟨qd % 65536 % 9, qp⟩ := rfl
              rw [e3] at HT
              obtain ⟨u, hu⟩ : ∃ u, qd % 65536 % 9 = u := ⟨_, rfl⟩
              have hu1 : 0 ≤ u ∧ u < 9 := by omega
              rw [hu] at e2 HT
              have e4 : IntKind.i64.wrap u = u := by rw [IntKind.wrap_i64]; omega
              clear hq e3 hu
              go_wp2_with fail
              clear hcx hbx
              refine wp_region_U [26] (fun w' => w'.cell? ⟨y, 2, none⟩ = some (.slice A3 j c3) ∧ w'.cell? ⟨b, off + k * 3 + 2, none⟩ = some (.slice (some ⟨eb, eo, none⟩) xn xc) ∧ w'.cell? ⟨eb, eo + j * 2, none⟩ = some (.int .i64 qd) ∧ w'.cell? ⟨eb, eo + j * 2 + 1, none⟩ = some (.int .i64 qp)) (by kernel_rfl) ?_
              change wpU _ _ _ _ _ _ _ _ _ (World.drew wr)
              refine U_segL (r := [0, 1, 2, 3, 4, 5, 6, 7, 8, 9, 10, 11, 12, 13, 14, 15, 16, 17, 18, 19, 20, 21, 22]) (fuel := 4) rfl (by kernel_rfl) (by kernel_rfl) (by simp only [List.filterMap_cons, List.filterMap_nil, List.getElem?_toArray, List.getElem?_cons_succ, List.getElem?_cons_zero]; rfl) (fun _ _ d _ _ h => by cases d <;> exact h) (And.intro (HBX2.out.cell 2) (HC2.out _ (gb_drew hnw2))) ?_
              iterate 23 (refine wpYield_step rfl (fun K hK => ?_)
                          apply Exists.intro
                          refine ⟨fun w' hw' => ?_, ?_⟩
                          · (go_simp; try with_reducible rfl)
                          go_simp
                          refine hK _ ?_
                          clear hK K)
              refine wpYield_nil ?_
              refine U_eff 23 rfl (by kernel_rfl) rfl (fun K hK => ?_)
              go_simp
              refine hK _ _ ⟨until_of (And.intro (cell_alloc (HBX2.out.cell 2)) (HC2.out _ (gb_trans hnw2 (gb_drew_alloc wr _)))), ?_⟩
              clear hK K
              refine U_eff 24 rfl (by kernel_rfl) rfl (fun K hK => ?_)
              refine wp_app_own T35 _ _ rfl rfl rfl (World.ownsRow.alloc (how.out.drew) _) (rd_litN [.int .i64 u, .int .i64 qp] 39 2 rfl) (by intro v hv; simp at hv; rcases hv with rfl | rfl <;> rfl) (by unfold maxLen; omega) (Nat.le_trans (Nat.le_of_lt HYW.out) (gb_drew_alloc wr _).size) ?_
              intro A4 c4 w5 h2 h3 h4
              have K1 := Lib.hid (show wr.grownBy w5 (Value.slice A3 j c3).ownBlock from gb_of_drew (gb_trans (World.grownBy_alloc _ _ _) h3))
              have NW5 := Lib.hid (show Nw wa w5 from nw_of_gb hnw2 K1.out (fun z hz => by rw [HY.out]; exact how.out.blk z hz))
              have BX5 := Lib.hid (show Obj1 w5 y 37 #[.int .i64 xi, .int .i64 xk, .slice A3 j c3] from HBX2.out.eq (K1.out.block _ HBX2.out.lt fun e => by
                obtain ⟨cur, hc⟩ := how.out.rowObj _ e.symm
                exact hc.ne HBX2.out (by decide) rfl))
              have H2 := Lib.hid h2
              clear h2 h3 h4
              refine hK _ _ ⟨until_of (And.intro (BX5.out.cell 2) (HC2.out _ NW5.out)), ?_⟩
              clear hK K
              refine U_segL (r := [25]) (fuel := 1) rfl (by kernel_rfl) (by kernel_rfl) (by simp only [List.filterMap_cons, List.filterMap_nil, List.getElem?_toArray, List.getElem?_cons_succ, List.getElem?_cons_zero]; rfl) (fun _ _ d _ _ h => by cases d <;> exact h) (And.intro (BX5.out.cell 2) (HC2.out _ NW5.out)) ?_
              (refine wpYield_step rfl (fun K hK => ?_)
               apply Exists.intro
               refine ⟨fun w' hw' => ?_, ?_⟩
               · (go_simp; try with_reducible rfl)
               go_simp
               refine hK _ ?_
               clear hK K)
              refine wpYield_nil ?_
              refine U_eff 26 rfl (by kernel_rfl) rfl (fun K hK => ?_)
              have e0 := BX5.out.cell 2; have f0 := BX5.out.frozen 2
              go_simp
              refine hK _ _ ⟨until_past (by kernel_rfl), ?_⟩
              clear hK K
              refine U_done (by kernel_rfl) ?_ _
              have BX6 := BX5.out.set 2 (.slice A4 (j + 1) c4)
              have G6 : w5.grownBy (w5.setCell ⟨y, 2, none⟩ (.slice A4 (j + 1) c4)) (some y) := gb_set (gb_nw (Nw.refl w5)) (.inl rfl) _
              have O6 := H2.out.kept G6 (fun r hr e => by
                injection hr with hr; subst hr
                obtain ⟨cur, hc⟩ := H2.out.rowObj _ e
                exact hc.ne BX5.out (by decide) rfl)
              have N6 := nw_of_gb NW5.out G6 (fun z hz => by injection hz with hz; subst hz; rw [HY.out]; exact Nat.le_refl _)
              obtain ⟨w6, hw6⟩ : ∃ w6, w5.setCell ⟨y, 2, none⟩ (.slice A4 (j + 1) c4) = w6 := ⟨_, rfl⟩
              rw [hw6] at BX6 O6 N6 ⊢
              clear hw6 G6 e0 f0
              go_wp2_with fail
              go_roundw
              case rel => exact ⟨j + 1, A4, c4, by go_num, by omega, by omega, BX6, Lib.hid (by rw [HT.out, fl_app, fl_one]; exact O6), N6⟩
              case measure => simp only [intOf]; omega
            · have d6 : decide ((j : Int) < 6) = false := decide_eq_false (by omega)
              have hfe : (xe.take j).map fewX = fewE xe := by unfold fewE; rw [show j = 6 by omega]
              have HE := Lib.hid hfe
              have hsm : (k + 1) * 40 ≤ 140737488355328 ∧ k + 1 ≤ maxLen := by unfold maxLen; omega
              have HBX3 := Lib.hid hbx
              have HO3 := Lib.hid (ho.out.nw hnw2)
              have HSZ := Lib.hid (Nat.le_trans hnw.size hnw2.size)
              clear hfe hbx
              go_wp2_with (first
                | (at_builtin; (with_reducible refine wpList_appN_own T28 _ _ (by with_unfolding_all exact rfl) (by with_unfolding_all exact rfl) (by with_unfolding_all exact rfl) (by with_unfolding_all exact rfl) HO3.out (by with_unfolding_all exact rfl) (gc_one1 _ _ _ _ _) hsm HSZ.out ?_); intro A4 c4 w3 h2 h3 h4)
                | ((with_reducible refine wpList_load_obj 37 _ (by with_unfolding_all exact rfl) (by with_unfolding_all exact rfl) (by with_unfolding_all exact rfl) HBX3.out _ Try.underlying37 (by with_unfolding_all exact rfl) (by kernel_rfl) ?_)))
              go_roundw
              case rel =>
                refine ⟨k + 1, A4, c4, gs' ++ [⟨xi, xk, A3, j, c3, fewE xe⟩], by go_num, rfl, by omega, by omega, Lib.hid (by rw [fl_app, fl_one']; exact h2), Lib.hid ?_, Lib.hid ?_, nw_of_gb (gb_trans hnw hnw2) h3 (fun g hg => ho.out.blk g hg)⟩
                · refine GsO.kept (GsO.snoc (b0 := y) (hgo.out.nw hnw2) (fun x hx z hz => by rw [← HY.out]; exact hgo.out.lt x hx z hz) (by rw [← HE.out]; exact how.out) (by rw [← HY.out]; exact hnw.size)) h3 (fun x hx => HO3.out.rowObj x hx)
                · obtain ⟨hk2, e⟩ := List.getElem?_eq_some_iff.1 HX.out
                  rw [List.map_append, hke.out, List.take_succ_eq_append_getElem hk2, List.map_append, e]; rfl
              case measure => simp only [intOf]; omega
          · have hfe : (xe.take j).map fewX = fewE xe := by
              have hl := HOK.out.len
              simp only at hl
              unfold fewE; rw [List.take_of_length_le (by omega), List.take_of_length_le (by omega)]
            have HE := Lib.hid hfe
            have hsm : (k + 1) * 40 ≤ 140737488355328 ∧ k + 1 ≤ maxLen := by unfold maxLen; omega
            have HBX3 := Lib.hid hbx
            have HO3 := Lib.hid (ho.out.nw hnw2)
            have HSZ := Lib.hid (Nat.le_trans hnw.size hnw2.size)
            clear hfe hbx
            go_wp2_with (first
              | (at_builtin; (with_reducible refine wpList_appN_own T28 _ _ (by with_unfolding_all exact rfl) (by with_unfolding_all exact rfl) (by with_unfolding_all exact rfl) (by with_unfolding_all exact rfl) HO3.out (by with_unfolding_all exact rfl) (gc_one1 _ _ _ _ _) hsm HSZ.out ?_); intro A4 c4 w3 h2 h3 h4)
              | ((with_reducible refine wpList_load_obj 37 _ (by with_unfolding_all exact rfl) (by with_unfolding_all exact rfl) (by with_unfolding_all exact rfl) HBX3.out _ Try.underlying37 (by with_unfolding_all exact rfl) (by kernel_rfl) ?_)))
            go_roundw
            case rel =>
              refine ⟨k + 1, A4, c4, gs' ++ [⟨xi, xk, A3, j, c3, fewE xe⟩], by go_num, rfl, by omega, by omega, Lib.hid (by rw [fl_app, fl_one']; exact h2), Lib.hid ?_, Lib.hid ?_, nw_of_gb (gb_trans hnw hnw2) h3 (fun g hg => ho.out.blk g hg)⟩
              · refine GsO.kept (GsO.snoc (b0 := y) (hgo.out.nw hnw2) (fun x hx z hz => by rw [← HY.out]; exact hgo.out.lt x hx z hz) (by rw [← HE.out]; exact how.out) (by rw [← HY.out]; exact hnw.size)) h3 (fun x hx => HO3.out.rowObj x hx)
              · obtain ⟨hk2, e⟩ := List.getElem?_eq_some_iff.1 HX.out
                rw [List.map_append, hke.out, List.take_succ_eq_append_getElem hk2, List.map_append, e]; rfl
            case measure => simp only [intOf]; omega
      · have d16 : decide ((k : Int) < 16) = false := decide_eq_false (by omega)
        have HF := Lib.hid (show gs'.map key = fewP gs by rw [hke.out, show k = 16 by omega]; rfl)
        go_wp2
        go_ret
        exact ⟨A', k, c', gs', rfl, ho.out, hgo.out, HF.out, hnw⟩
    · have HF := Lib.hid (show gs'.map key = fewP gs by
        unfold fewP
        rw [hke.out, List.take_of_length_le (show gs.length ≤ k by rw [HGL.out]; omega), List.take_of_length_le (show gs.length ≤ 16 by rw [HGL.out]; omega)])
      go_wp2
      go_ret
      exact ⟨A', k, c', gs', rfl, ho.out, hgo.out, HF.out, hnw⟩
end Go.Proofs.Ytobifmndpkjlmaa


/- group.Spare and the document's: the most extents that one disk has. -/
namespace Go.Proofs.Ytobifmndpkjlmaa
open Go.RowKit Go.BW

def cntE (L : List Et) (d : Int) : Nat := L.countP fun e => e.dk == d
def allE (gs : List Gp) : List Et := gs.flatMap (·.es)
structure SpareIs (L : List Et) (disks : Int) (v : Nat) : Prop where
  up : ∀ d, 0 ≤ d → d < disks → cntE L d ≤ v
  is : v = 0 ∨ ∃ d, 0 ≤ d ∧ d < disks ∧ cntE L d = v
theorem SpareIs.uniq {L : List Et} {disks : Int} {v v' : Nat} (h : SpareIs L disks v) (h' : SpareIs L disks v') : v = v' := by
  rcases h.is with h1 | ⟨d, d0, d1, d2⟩
  · rcases h'.is with h2 | ⟨d', e0, e1, e2⟩
    · omega
    · have := h.up d' e0 e1; omega
  · have h3 := h'.up d d0 d1
    rcases h'.is with h2 | ⟨d', e0, e1, e2⟩
    · omega
    · have := h.up d' e0 e1; omega
theorem cntE_snoc (L : List Et) (e : Et) (d : Int) : cntE (L ++ [e]) d = cntE L d + if e.dk = d then 1 else 0 := by
  unfold cntE
  rw [List.countP_append, List.countP_singleton]
  simp
theorem cntE_le (L : List Et) (d : Int) : cntE L d ≤ L.length := List.countP_le_length
theorem SpareIs.nil (disks : Int) : SpareIs [] disks 0 := ⟨fun d _ _ => by simp [cntE], .inl rfl⟩
theorem SpareIs.out {L : List Et} {disks : Int} {v : Nat} {e : Et} (h : SpareIs L disks v) (he : ¬ (0 ≤ e.dk ∧ e.dk < disks)) : SpareIs (L ++ [e]) disks v := by
  have hc : ∀ d, 0 ≤ d → d < disks → cntE (L ++ [e]) d = cntE L d := fun d h0 h1 => by
    rw [cntE_snoc, if_neg (by rintro rfl; exact he ⟨h0, h1⟩), Nat.add_zero]
  refine ⟨fun d h0 h1 => by rw [hc d h0 h1]; exact h.up d h0 h1, ?_⟩
  rcases h.is with h1 | ⟨d, d0, d1, d2⟩
  · exact .inl h1
  · exact .inr ⟨d, d0, d1, by rw [hc d d0 d1]; exact d2⟩
theorem SpareIs.inn {L : List Et} {disks : Int} {v : Nat} {e : Et} (h : SpareIs L disks v) (h0 : 0 ≤ e.dk) (h1 : e.dk < disks) : SpareIs (L ++ [e]) disks (max v (cntE L e.dk + 1)) := by
  have hs : cntE (L ++ [e]) e.dk = cntE L e.dk + 1 := by rw [cntE_snoc, if_pos rfl]
  refine ⟨fun d d0 d1 => ?_, ?_⟩
  · rw [cntE_snoc]
    have := h.up d d0 d1
    split
    · next hh => subst hh; omega
    · omega
  · rcases Nat.le_total v (cntE L e.dk + 1) with hv | hv
    · exact .inr ⟨e.dk, h0, h1, by rw [hs]; omega⟩
    · rcases h.is with h2 | ⟨d, d0, d1, d2⟩
      · omega
      · by_cases hd : e.dk = d
        · subst hd; omega
        · exact .inr ⟨d, d0, d1, by rw [cntE_snoc, if_neg hd]; omega⟩
/-- what the map holds -/
def cm (L : List Et) (disks : Int) : Int → Option Value := fun x => if 0 ≤ x ∧ x < disks ∧ 0 < cntE L x then some (.int .i64 (cntE L x : Nat)) else none
theorem cm_at {L : List Et} {disks x : Int} (h0 : 0 ≤ x) (h1 : x < disks) : (cm L disks x).getD (.int .i64 0) = .int .i64 (cntE L x : Nat) := by
  unfold cm
  split
  · rfl
  · next h =>
    have : cntE L x = 0 := by
      rcases Nat.eq_zero_or_pos (cntE L x) with h2 | h2
      · exact h2
      · exact absurd ⟨h0, h1, h2⟩ h
    rw [this]; rfl
theorem cm_inn {L : List Et} {disks : Int} {e : Et} (h0 : 0 ≤ e.dk) (h1 : e.dk < disks) : (fun z => if z = e.dk then some (Value.int .i64 ((cntE L e.dk : Int) + 1)) else cm L disks z) = cm (L ++ [e]) disks := by
  funext z
  unfold cm
  rw [cntE_snoc]
  by_cases hz : z = e.dk
  · subst hz
    rw [if_pos rfl, if_pos rfl, if_pos ⟨h0, h1, by omega⟩, Int.natCast_add]
    rfl
  · rw [if_neg hz, if_neg (fun h : e.dk = z => hz h.symm), Nat.add_zero]
theorem cm_out {L : List Et} {disks : Int} {e : Et} (he : ¬ (0 ≤ e.dk ∧ e.dk < disks)) : cm L disks = cm (L ++ [e]) disks := by
  funext z
  unfold cm
  rw [cntE_snoc]
  by_cases hz : e.dk = z
  · subst hz
    rw [if_neg (fun h => he ⟨h.1, h.2.1⟩), if_neg (fun h => he ⟨h.1, h.2.1⟩)]
  · rw [if_neg hz, Nat.add_zero]
theorem cm_nil (disks : Int) : (fun _ => none) = cm [] disks := by funext z; simp [cm, cntE]
theorem MT55 : MapT Try.prog 55 3 3 (.int .i64 0) := ⟨Try.underlying55, Try.underlying3, fun w => by
  have h : (Try.prog.info? 3).map (·.zero) = some (some (.int .i64 0)) := by kernel_rfl
  obtain ⟨i, hi, hz⟩ := Option.map_eq_some_iff.1 h
  simp [zeroValue, typeInfo, hi, hz]⟩
section
variable {P : Program} {ops : Array Oper} {rest : List Oper} {o : Oper} {a : Act} {Q : Exit → Act → World → Prop} {w : World}
theorem wpList_mk' (t : TypeId) (hop : o.op = .makeMap t none) (hw : Region.wanted o (yielded ops a.tmps) = true) (hK : wpList P ops Q rest (a.put o.dst (.map (some w.heap.size))) (w.alloc (.map #[] 0))) : wpList P ops Q (o :: rest) a w := by
  refine wpList_ran hw (v := .map (some w.heap.size)) (w' := w.alloc (.map #[] 0)) ?_ hK
  unfold execOp
  simp [hop, run_makeMap]
end
def SparePost (gs : List Gp) (disks : Int) (w : World) (e : Ending) (w' : World) : Prop := ∃ v : Nat, e = .returned (.int .i64 v) ∧ SpareIs (allE gs) disks v ∧ v ≤ (allE gs).length ∧ Nw w w'
theorem allE_take {gs : List Gp} {k : Nat} {x : Gp} (h : gs[k]? = some x) : allE (gs.take (k + 1)) = allE (gs.take k) ++ x.es := by
  obtain ⟨hk, rfl⟩ := List.getElem?_eq_some_iff.1 h
  unfold allE
  rw [List.take_succ_eq_append_getElem hk, List.flatMap_append]
  simp
set_option maxHeartbeats 8000000 in
theorem spare_any {w : World} {B m c2 : Nat} {A2 : Option Addr} {gs : List Gp} (hg : GsR w B A2 m gs) (hB : B ≤ w.heap.size) (hm : m ≤ 1000000) (disks : Int) : Calls Try.prog 20 #[.slice A2 m c2, .int .i64 disks] w (SparePost gs disks w) := by
  have hglen := hg.len
  have HG := Lib.hid hg; have HB := Lib.hid hB; have HGL := Lib.hid hglen
  have hmp := MapI.new w
  have hn0 := World.grownBy_alloc w (.map #[] 0) none
  have HMP := Lib.hid (show MapI (w.alloc (.map #[] 0)) w.heap.size (cm [] disks) from by rw [← cm_nil]; exact hmp)
  have N0 := Lib.hid hn0
  clear hg hB hglen hmp hn0
  go_enter Try.func20, Try.ntmps20
  go_wp2_with ((with_reducible refine wpList_mk' 55 (by with_unfolding_all exact rfl) (by with_unfolding_all exact rfl) ?_))
  obtain ⟨W, hW⟩ : ∃ W, w.alloc (.map #[] 0) = W := ⟨_, rfl⟩
  obtain ⟨mp, hmp⟩ : ∃ y, w.heap.size = y := ⟨_, rfl⟩
  rw [hW] at HMP N0 ⊢
  rw [hmp] at HMP ⊢
  have HW := Lib.hid hmp
  clear hW hmp
  go_loopw [6, 14] (fun s v wr => ∃ (k z : Nat), v = .int .i64 k ∧ s = .int .i64 z ∧ k ≤ m ∧ Hid (SpareIs (allE (gs.take k)) disks z) ∧ Hid ((allE (gs.take k)).length ≤ k * 1000000 ∧ z ≤ (allE (gs.take k)).length) ∧ Hid (MapI wr mp (cm (allE (gs.take k)) disks)) ∧ Nw w wr) (fun _ v _ => m - (intOf v).toNat)
  case atStart => exact ⟨0, 0, rfl, rfl, Nat.zero_le _, Lib.hid (SpareIs.nil _), Lib.hid (by simp [allE]), HMP, N0.out⟩
  case round =>
    obtain ⟨k, z, rfl, rfl, hk, hsp, hsz, hmi, hnw⟩ := hrel
    obtain ⟨wa, rfl⟩ : ∃ q, q = wr := ⟨_, rfl⟩
    by_cases hlt : k < m
    · have hltz : (k : Int) < (m : Int) := by omega
      have HG3 := Lib.hid (HG.out.nw hnw HB.out)
      have HB3 := Lib.hid (Nat.le_trans HB.out hnw.size)
      obtain ⟨_, b, off, x, hA, _, hx, hc⟩ := HG3.out.rd.atL gc_len (by decide) hlt
      subst hA
      have hok := HG3.out.all x (List.mem_of_getElem? hx)
      have HT := Lib.hid (allE_take hx)
      have HC := Lib.hid hc
      obtain ⟨xi, xk, xA, xn, xc, xe⟩ := x
      change Hid (∀ j u, [Value.int .i64 xi, .int .i64 xk, .slice xA xn xc][j]? = some u → _) at HC
      have hxl := hok.len
      have hnm := hok.nm
      have hrd := (HG.out.all _ (List.mem_of_getElem? hx)).rd
      simp only at HT hxl hnm hrd
      have HXL := Lib.hid hxl
      have HRD := Lib.hid hrd
      have hbx := (Obj1.new wa 37 #[.int .i64 xi, .int .i64 xk, .slice xA xn xc]).cell 2
      clear hx hok hc hxl hrd
      go_wp2_with (first
        | ((with_reducible refine wpList_load_agg 37 _ (by with_unfolding_all exact rfl) (by with_unfolding_all exact rfl) (by with_unfolding_all exact rfl) [Value.int .i64 xi, .int .i64 xk, .slice xA xn xc] HC.out _ Try.underlying37 (by with_unfolding_all exact rfl) (by kernel_rfl) ?_)))
      have HN1 := Lib.hid (World.grownBy_alloc wa (.cells #[.int .i64 xi, .int .i64 xk, .slice xA xn xc] 37) none)
      obtain ⟨wb, hwb⟩ : ∃ wb, wa.alloc (.cells #[.int .i64 xi, .int .i64 xk, .slice xA xn xc] 37) = wb := ⟨_, rfl⟩
      rw [hwb] at HN1 hbx ⊢
      clear hwb hbx
      have HNB := Lib.hid (gb_trans hnw HN1.out)
      have HMB := Lib.hid (hmi.out.nw HN1.out)
      go_loopw [6, 21] (fun s v wr => ∃ (j z : Nat), v = .int .i64 j ∧ s = .int .i64 z ∧ j ≤ xn ∧ Hid (SpareIs (allE (gs.take k) ++ xe.take j) disks z) ∧ z ≤ k * 1000000 + j ∧ Hid ((allE (gs.take k) ++ xe.take j).length = (allE (gs.take k)).length + j ∧ z ≤ (allE (gs.take k) ++ xe.take j).length) ∧ Hid (MapI wr mp (cm (allE (gs.take k) ++ xe.take j) disks)) ∧ Nw w wr) (fun _ v _ => xn - (intOf v).toNat)
      case atStart => exact ⟨0, z, rfl, rfl, Nat.zero_le _, Lib.hid (by simpa using hsp.out), by have := hsz.out; omega, Lib.hid (by simpa using hsz.out.2), Lib.hid (by simpa using HMB.out), HNB.out⟩
      case round =>
        obtain ⟨j, z2, rfl, rfl, hj, hsp2, hzj, hle, hmi2, hnw2⟩ := hrel
        by_cases hl2 : j < xn
        · have hl2z : (j : Int) < (xn : Int) := by omega
          obtain ⟨_, eb, eo, e, hA, _, he, hce⟩ := (HRD.out.nw hnw2 HB.out).atL ec_len (by decide) hl2
          subst hA
          have HCE := Lib.hid hce
          have HTE := Lib.hid (show xe.take (j + 1) = xe.take j ++ [e] by
            obtain ⟨hk2, rfl⟩ := List.getElem?_eq_some_iff.1 he
            exact List.take_succ_eq_append_getElem hk2)
          obtain ⟨ed, ep⟩ := e
          change Hid (∀ j u, [Value.int .i64 ed, .int .i64 ep][j]? = some u → _) at HCE
          have hbe := Obj1.new wr 39 #[.int .i64 ed, .int .i64 ep]
          have hne := World.grownBy_alloc wr (.cells #[.int .i64 ed, .int .i64 ep] 39) none
          have HBE := Lib.hid hbe; have HNE := Lib.hid hne
          have HLE := Lib.hid (show (allE (gs.take k) ++ xe.take (j + 1)).length = (allE (gs.take k)).length + (j + 1) by rw [HTE.out, ← List.append_assoc, List.length_append, hle.out.1]; simp; omega)
          clear hce he hbe hne
          by_cases hin : 0 ≤ ed ∧ ed < disks
          · have hi1 := hin.1
            have hi2 := hin.2
            have d1 : decide (0 ≤ ed) = true := decide_eq_true hi1
            have HS2 := Lib.hid (hsp2.out.inn (e := ⟨ed, ep⟩) hi1 hi2)
            have HM2 := Lib.hid (show MapI (wr.alloc (.cells #[.int .i64 ed, .int .i64 ep] 39)) mp (cm (allE (gs.take k) ++ xe.take j) disks) from hmi2.out.nw HNE.out)
            have hcl := cntE_le (allE (gs.take k) ++ xe.take j) ed
            have hca := cm_at (L := allE (gs.take k) ++ xe.take j) hi1 hi2
            have hci := cm_inn (L := allE (gs.take k) ++ xe.take j) (e := ⟨ed, ep⟩) hi1 hi2
            simp only at HS2 hci
            obtain ⟨q, hq⟩ : ∃ q, cntE (allE (gs.take k) ++ xe.take j) ed = q := ⟨_, rfl⟩
            rw [hq] at HS2 hcl hca hci
            have HCA := Lib.hid hca; have HCI := Lib.hid hci
            have hql : q ≤ k * 1000000 + j := by have h1 := hle.out.1; have h2 := hsz.out.1; omega
            have hqb : q ≤ 2000000000000 := by omega
            have HQL := Lib.hid hcl
            have hca2 : ((fun z => if z = ed then some (Value.int .i64 ((q : Int) + 1)) else cm (allE (gs.take k) ++ xe.take j) disks z) ed).getD (.int .i64 0) = .int .i64 ((q : Int) + 1) := by simp
            have HCB := Lib.hid hca2
            have HMX := Lib.hid (show (if (z2 : Int) < (q : Int) + 1 then (q : Int) + 1 else (z2 : Int)) = ((max z2 (q + 1) : Nat) : Int) by split <;> omega)
            obtain ⟨mx, hmx⟩ : ∃ mx, max z2 (q + 1) = mx := ⟨_, rfl⟩
            have hmx' : mx ≤ k * 1000000 + (j + 1) := by omega
            have HML := Lib.hid (show mx ≤ (allE (gs.take k) ++ xe.take (j + 1)).length from by rw [HLE.out]; have h1 := hle.out; omega)
            rw [hmx] at HMX HS2
            clear hca hci hca2 hq hcl hin hmx
            go_wp2_with (first
              | ((with_reducible refine wpList_max_int _ _ _ (by with_unfolding_all exact rfl) (by with_unfolding_all exact rfl) (z2 : Int) ((q : Int) + 1) (by with_unfolding_all exact rfl) (by with_unfolding_all exact rfl) HMX.out ?_))
              | ((with_reducible refine wpList_lookI MT55 _ _ (by with_unfolding_all exact rfl) (by with_unfolding_all exact rfl) (by with_unfolding_all exact rfl) ed (by with_unfolding_all exact rfl) M3.out HCB.out ?_))
              | ((with_reducible refine wpList_updI MT55 _ _ _ (by with_unfolding_all exact rfl) (by with_unfolding_all exact rfl) (by with_unfolding_all exact rfl) ed (by with_unfolding_all exact rfl) (.int .i64 ((q : Int) + 1)) (by with_unfolding_all exact rfl) HM2.out ?_); intro w3 m3 g3; have M3 := Lib.hid m3; have G3 := Lib.hid g3; have ce := (HBE.out.eq (g3.block _ HBE.out.lt (fun e => by injection e with e; exact HM2.out.ne HBE.out e.symm))).cell 0; clear m3 g3)
              | ((with_reducible refine wpList_lookI MT55 _ _ (by with_unfolding_all exact rfl) (by with_unfolding_all exact rfl) (by with_unfolding_all exact rfl) ed (by with_unfolding_all exact rfl) HM2.out HCA.out ?_))
              | ((with_reducible refine wpList_load_agg 39 _ (by with_unfolding_all exact rfl) (by with_unfolding_all exact rfl) (by with_unfolding_all exact rfl) [Value.int .i64 ed, .int .i64 ep] HCE.out _ Try.underlying39 (by with_unfolding_all exact rfl) (by kernel_rfl) ?_)))
            go_roundw
            case rel => exact ⟨j + 1, mx, by go_num, rfl, by omega, Lib.hid (by rw [HTE.out, ← List.append_assoc]; exact HS2.out), hmx', Lib.hid ⟨HLE.out, HML.out⟩, Lib.hid (by rw [HTE.out, ← List.append_assoc, ← HCI.out]; exact M3.out), nw_of_gb (gb_trans hnw2 HNE.out) G3.out (fun y hy => by injection hy with hy; subst hy; rw [HW.out]; exact Nat.le_refl _)⟩
            case measure => simp only [intOf]; omega
          · have HS2 := Lib.hid (hsp2.out.out (e := ⟨ed, ep⟩) hin)
            have HCO := Lib.hid (cm_out (L := allE (gs.take k) ++ xe.take j) (e := ⟨ed, ep⟩) hin)
            have HZL := Lib.hid (show z2 ≤ (allE (gs.take k) ++ xe.take (j + 1)).length from by rw [HLE.out]; have h1 := hle.out; omega)
            rcases (show ed < 0 ∨ 0 ≤ ed by omega) with h5 | h5
            · have d1 : decide (0 ≤ ed) = false := decide_eq_false (by omega)
              clear hin
              go_wp2_with (first
                | ((with_reducible refine wpList_load_agg 39 _ (by with_unfolding_all exact rfl) (by with_unfolding_all exact rfl) (by with_unfolding_all exact rfl) [Value.int .i64 ed, .int .i64 ep] HCE.out _ Try.underlying39 (by with_unfolding_all exact rfl) (by kernel_rfl) ?_)))
              go_roundw
              case rel => exact ⟨j + 1, z2, by go_num, rfl, by omega, Lib.hid (by rw [HTE.out, ← List.append_assoc]; exact HS2.out), by omega, Lib.hid ⟨HLE.out, HZL.out⟩, Lib.hid (by rw [HTE.out, ← List.append_assoc, ← HCO.out]; exact hmi2.out.nw HNE.out), gb_trans hnw2 HNE.out⟩
              case measure => simp only [intOf]; omega
            · have d1 : decide (0 ≤ ed) = true := decide_eq_true h5
              have h7 : ¬ ed < disks := fun h => hin ⟨h5, h⟩
              clear hin
              go_wp2_with (first
                | ((with_reducible refine wpList_load_agg 39 _ (by with_unfolding_all exact rfl) (by with_unfolding_all exact rfl) (by with_unfolding_all exact rfl) [Value.int .i64 ed, .int .i64 ep] HCE.out _ Try.underlying39 (by with_unfolding_all exact rfl) (by kernel_rfl) ?_)))
              go_roundw
              case rel => exact ⟨j + 1, z2, by go_num, rfl, by omega, Lib.hid (by rw [HTE.out, ← List.append_assoc]; exact HS2.out), by omega, Lib.hid ⟨HLE.out, HZL.out⟩, Lib.hid (by rw [HTE.out, ← List.append_assoc, ← HCO.out]; exact hmi2.out.nw HNE.out), gb_trans hnw2 HNE.out⟩
              case measure => simp only [intOf]; omega
        · have hjn : j = xn := by omega
          have HE := Lib.hid (show allE (gs.take k) ++ xe.take j = allE (gs.take (k + 1)) by rw [HT.out, List.take_of_length_le (l := xe) (by rw [HXL.out]; omega)])
          have hsp3 := hsp2.out; have hle3 := hle.out; have hmi3 := hmi2.out
          rw [HE.out] at hsp3 hle3 hmi3
          have S3 := Lib.hid hsp3; have M3 := Lib.hid hmi3
          have L3 := Lib.hid (show (allE (gs.take (k + 1))).length ≤ (k + 1) * 1000000 ∧ z2 ≤ (allE (gs.take (k + 1))).length from ⟨by have := hsz.out.1; omega, hle3.2⟩)
          have hjn' : ¬ j < xn := by omega
          clear hsp3 hle3 hmi3 hjn
          go_wp2_with fail
          go_roundw
          case rel => exact ⟨k + 1, z2, by go_num, rfl, by omega, S3, L3, M3, hnw2⟩
          case measure => simp only [intOf]; omega
    · have hkm : k = m := by omega
      have HF := Lib.hid (show gs.take k = gs from List.take_of_length_le (by rw [HGL.out]; omega))
      clear hkm
      go_wp2
      go_ret
      exact ⟨z, rfl, by have := hsp.out; rwa [HF.out] at this, by have := hsz.out.2; rwa [HF.out] at this, hnw⟩
end Go.Proofs.Ytobifmndpkjlmaa

