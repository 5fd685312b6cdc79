/- The Go function VmapPlays returns true for every int, slice of slices of changes, place and int; without conditions. -/
import Derived.Test.YtfpllllglpjipaaOO
import Derived.Test.YtfpllllglpjipaaR2
import Derived.Test.YtfpllllglpjipaaCut
namespace Go.Proofs.Ytfpllllglpjipaa
open Go.RowKit Go.BW

section
variable {w w' wb : World} {g ga gb : Nat} {ps qs : List Wh}
theorem RR.chg {g2 : Nat} {cs : Array Value} {t : TypeId} (h : RR w g ps) (k : Chg w w' [g2]) (h2 : Obj1 w g2 t cs) (ht : t ≠ 31) (ht' : t ≠ 47) : RR w' g ps := by
  obtain ⟨l, c, h1, h3, h4⟩ := h
  obtain ⟨cur, ho⟩ := h3.obj
  exact ⟨l, c, h1.chg k (by simpa using h1.ne h2 (Ne.symm ht')), h3.eqb (k.block l ho.lt (by simp; exact ho.ne h2 (Ne.symm ht))), h4⟩
theorem RR.grow {n c base size : Nat} {A : Option Addr} {e : TypeId} {xs : List Value} (h : RR w g ps) (k : w.grownBy w' (Value.slice A n c).ownBlock) (o : Own w base e size A n c xs) (h1 : e ≠ 31) (h2 : e ≠ 47) : RR w' g ps := by
  obtain ⟨l, c', a1, a2, a3⟩ := h
  obtain ⟨cur, ho⟩ := a2.obj
  have key : ∀ r, (Value.slice A n c).ownBlock = some r → r ≠ g ∧ r ≠ l := by
    intro r hr
    obtain ⟨cu, hc⟩ := o.rowObj r hr
    exact ⟨hc.ne a1 h2, hc.ne ho h1⟩
  exact ⟨l, c', a1.eq (k.block g a1.lt (fun e => (key g e.symm).1 rfl)), a2.eqb (k.block l ho.lt (fun e => (key l e.symm).2 rfl)), a3⟩
theorem RR.obj1 (h : RR w g ps) : ∃ cs, Obj1 w g 47 cs := by obtain ⟨l, c, h1, _⟩ := h; exact ⟨_, h1⟩
theorem VRep.obj1 (h : VRep w g ps) : ∃ cs, Obj1 w g 56 cs := by obtain ⟨l, b, c, h1, _⟩ := h; exact ⟨_, h1⟩
theorem VS.chgR (h : VS wb w ga ps) (hr : RR w gb qs) (hge : wb.heap.size ≤ gb) (k : Chg w w' [gb]) : VS wb w' ga ps := by
  obtain ⟨cs, ho⟩ := hr.obj1
  obtain ⟨cs', ho'⟩ := h.rep.obj1
  exact ⟨h.rep.chg k (ho'.ne ho (by decide)) ho (by decide), h.ge, nw_of_chg h.nw k (by intro x hx; simp at hx; subst hx; exact hge)⟩
theorem W3.chgR {y : Nat} {a b c : Int} (h : W3 w y a b c) (hr : RR w gb qs) (k : Chg w w' [gb]) : W3 w' y a b c := by
  obtain ⟨cs, ho⟩ := hr.obj1
  exact Obj1.chg h k (by simpa using Obj1.ne h ho (by decide))
theorem RR.chgV (h : RR w gb qs) (hv : VRep w ga ps) (k : Chg w w' [ga]) : RR w' gb qs := by
  obtain ⟨cs, ho⟩ := hv.obj1
  exact h.chg k ho (by decide) (by decide)
/-- a row of changes at hand -/
theorem own33_chg {r n c base : Nat} {xs : List Value} (h : Own w base 33 4 (some ⟨r, 0, none⟩) n c xs) (hv : VRep w ga ps) (k : Chg w w' [ga]) : Own w' base 33 4 (some ⟨r, 0, none⟩) n c xs := by
  obtain ⟨cs, ho⟩ := hv.obj1
  obtain ⟨cur, hc⟩ := h.obj
  exact h.eqb (k.block r hc.lt (by simp; exact hc.ne ho (by decide)))
theorem own_nil {base n c : Nat} {e : TypeId} {size : Nat} {A : Option Addr} {xs : List Value} (h : Own w base e size A n c xs) (hn : n = 0) : xs = [] := by
  subst hn
  have := h.len
  rw [Nat.zero_mul] at this
  exact List.eq_nil_of_length_eq_zero this
end
def PlayRel (w : World) (ga gb vx N : Nat) (x : Wh) (wr : World) : Prop := ∃ ps, VS w wr ga ps ∧ RR wr gb ps ∧ W3 wr vx x.t x.g x.s ∧ Inv ps ∧ ps.length = N
def PlayRel2 (w w5 : World) (ga gb vx : Nat) (x : Wh) (qs ps : List Wh) (A : Option Addr) (k c : Nat) (wr : World) : Prop := VS w wr ga qs ∧ RR wr gb ps ∧ W3 wr vx x.t x.g x.s ∧ (0 < k → ∃ ys, Own wr w5.heap.size 33 4 A k c ys)
def PlayRel3 (w9 : World) (l9 n c : Nat) (wr : World) : Prop := Nw w9 wr ∧ ∃ ys, Own wr w9.heap.size 31 3 (some ⟨l9, 0, none⟩) n c ys
theorem T33one : ∀ l : List Ch, ∀ u ∈ fl cc l, u.oneCell' = true := by
  intro l u hu
  unfold fl at hu
  obtain ⟨q, hq, hu⟩ := List.mem_flatten.1 hu
  obtain ⟨x, _, rfl⟩ := List.mem_map.1 hq
  exact cc_one x u hu
/-- At of both maps -/
theorem at_both (qs : List Wh) (bk : Int) : ∃ y e, (∀ w g, VRep w g qs → Calls Try.prog 15 #[pv g, .int .i64 bk] w (Ret (.tuple #[wv y, .int .i64 e]) w)) ∧ (∀ w g, RR w g qs → Calls Try.prog 19 #[pv g, .int .i64 bk] w (Ret (.tuple #[wv y, .int .i64 e]) w)) := by
  by_cases h : bk < 0 ∨ (qs.length : Int) ≤ bk
  · exact ⟨w0, 3, fun w g hv => at_bad hv bk h, fun w g hr => rat_bad hr bk h⟩
  · obtain ⟨k, rfl⟩ : ∃ k : Nat, bk = k := ⟨bk.toNat, by omega⟩
    have hk : k < qs.length := by omega
    exact ⟨qs[k], 0, fun w g hv => at_in hv k _ (List.getElem?_eq_getElem hk), fun w g hr => rat_in hr k _ (List.getElem?_eq_getElem hk)⟩
set_option maxRecDepth 100000 in
set_option maxHeartbeats 8000000 in
theorem plays_walk (n0 : Int) (_ : -9223372036854775808 ≤ n0 ∧ n0 ≤ 9223372036854775807) {w : World} (A : Option Addr) (len cap : Nat) (l : List Sl) (hin : InCC w A len cap l) (x : Wh) (_ : okW x) (bk : Int) (_ : -9223372036854775808 ≤ bk ∧ bk ≤ 9223372036854775807) :
    Calls Try.prog 7 #[.int .i64 n0, .slice A len cap, wv x, .int .i64 bk] w (Ret (.bool true) w) := by
  obtain ⟨hr, hc, hcm, hll, hok⟩ := hin
  have HR := Lib.hid (show Rd w w.heap.size 1 A len (fl slc l) from hr)
  have HOK := Lib.hid hok
  clear hr hok hll
  unfold maxLen at hcm
  obtain ⟨N, hN⟩ : ∃ N, numN n0 = N := ⟨_, rfl⟩
  have hNb := numN_b n0
  have hnew := fun w => new_any n0 w
  have hrnew := fun w => rnew_any n0 w
  rw [hN] at hNb hnew hrnew
  have HNEW := Lib.hid hnew; have HRNEW := Lib.hid hrnew; clear hnew hrnew hN
  obtain ⟨i0, hi0, hz0, _⟩ := T28.info
  have HZ := Lib.hid hz0; clear hz0
  have H0 := Lib.hid hi0; clear hi0
  obtain ⟨i1, hi1, hz1, _⟩ := T22.info
  have HZ1 := Lib.hid hz1; clear hz1
  have HI1 := Lib.hid hi1; clear hi1
  obtain ⟨xt, xg, xs⟩ := x
  obtain ⟨w0', hw0⟩ : ∃ w0', w0' = w.alloc (.cells #[.int .i64 xt, .int .i64 xg, .int .i64 xs] 31) := ⟨_, rfl⟩
  have N0 := Lib.hid (show Nw w w0' from by rw [hw0]; exact World.grownBy_alloc w _ none)
  have X0 := Lib.hid (show W3 w0' w.heap.size xt xg xs from by rw [hw0]; exact Obj1.new w _ _)
  have HW := Lib.hid hw0; clear hw0
  unfold wv
  go_enter Try.func7, Try.ntmps7
  go_wp2_with (first | (refine (HRNEW.out _).mono ?_; rintro e w3 ⟨gb, rfl, r3, hgb3, n3⟩; have R3 := Lib.hid r3; have S3 := Lib.hid (S1.out.more n3); have X3 := Lib.hid (Obj1.nw X2.out n3); have HGB := Lib.hid (Nat.le_trans S1.out.nw.size hgb3); clear r3 hgb3 n3; unfold pv) |
    (refine (HNEW.out _).mono ?_; rintro e w2 h1; obtain ⟨ga, rfl, s1, hga, n2⟩ := VS.of_new N1.out h1; have S1 := Lib.hid s1; have X2 := Lib.hid (Obj1.nw X1.out n2); clear s1 h1 hga n2; unfold pv) |
    (rw [← HW.out]; (with_reducible refine (shown_any _).mono ?_); rintro e w1 ⟨rfl, n1⟩; have N1 := Lib.hid (gb_trans N0.out n1); have X1 := Lib.hid (Obj1.nw X0.out n1); clear n1))
  generalize w.heap.size = vx at X3
  clear X0 X1 X2 S1 N1 N0 HW
  go_loopw [12] (fun i wr => ∃ i' : Nat, i = .int .i64 i' ∧ i' ≤ 60 ∧ i' ≤ len ∧ PlayRel w ga gb vx N ⟨xt, xg, xs⟩ wr) (fun i _ => 60 - (intOf i).toNat)
  case atStart => exact ⟨0, rfl, by omega, by omega, _, S3.out, R3.out, X3.out, inv_zero N, by simp⟩
  case round =>
    obtain ⟨i, rfl, hi1, hi2, ps, s5, r5, x5, inv5, len5⟩ := hrel
    obtain ⟨w5, hw5⟩ : ∃ w5, w5 = wr := ⟨_, rfl⟩
    subst hw5
    have S5 := Lib.hid s5; have R5 := Lib.hid r5; have X5 := Lib.hid x5; have I5 := Lib.hid inv5; have L5 := Lib.hid len5; clear s5 r5 x5 inv5 len5
    by_cases hlt : i < len ∧ i < 60
    · obtain ⟨hlt1, hlt2⟩ := hlt
      obtain ⟨b, off, y, rfl, hx, hcx⟩ := sl1 HR.out (Nat.le_refl _) hlt1
      have hX : InC w y.A y.n y.c y.l := HOK.out y (List.mem_of_getElem? hx)
      obtain ⟨xA, xn, xc, xl⟩ := y
      simp only at hX hcx
      obtain ⟨k, hk⟩ : ∃ k, min xn 20 = k := ⟨_, rfl⟩
      have HCX := Lib.hid hcx
      obtain ⟨hxr, hkc, hxo⟩ := hX.take k (by omega)
      have HXR := Lib.hid hxr; have HXO := Lib.hid hxo
      obtain ⟨cs, hcs⟩ : ∃ cs, xl.take k = cs := ⟨_, rfl⟩
      rw [hcs] at HXR HXO
      have hk20 : k ≤ 20 := by omega
      have HK := Lib.hid hk
      clear hX hcx hx hxr hxo hcs hk
      obtain ⟨r, hr⟩ : ∃ r, (setF ps cs).1 = r := ⟨_, rfl⟩
      obtain ⟨qs, hqs⟩ : ∃ qs, (setF ps cs).2 = qs := ⟨_, rfl⟩
      have HRR := Lib.hid hr; have HQS := Lib.hid hqs
      have IQ := Lib.hid (show Inv qs from by rw [← hqs]; exact inv_set I5.out HXO.out)
      have LQ := Lib.hid (show qs.length = N from by rw [← hqs, setF_len]; exact L5.out)
      clear hr hqs
      have hc0 := HCX.out _ S5.out.nw
      go_wp2_with fail
      refine wp_region_held (S := (fun w' => w'.cell? ⟨b, off + i, none⟩ = some (.slice xA xn xc))) (by kernel_rfl) ?_
      change wpAnyH _ _ _ _ _ _ _ _ (World.drew w5)
      refine held_seg' (l := [1, 2, 3, 4, 5, 6, 7, 8, 9, 10, 11]) (fuel := 3) rfl (by kernel_rfl) (by kernel_rfl) (by simp only [List.filterMap_cons, List.filterMap_nil, List.getElem?_toArray, List.getElem?_cons_succ, List.getElem?_cons_zero]; rfl) (fun _ _ d _ _ h => by cases d <;> exact h) hc0 ?_
      iterate 9 (refine wpYield_step rfl (fun K hK => ?_)
                 apply Exists.intro
                 refine ⟨fun w' hw' => ?_, ?_⟩
                 · (go_simp; try with_reducible rfl)
                 go_simp
                 refine hK _ ?_
                 clear hK K)
      refine wpYield_min _ _ _ rfl rfl xn 20 rfl rfl HK.out ?_
      refine wpYield_slice_hi 22 33 Try.underlying22 i33 _ _ rfl rfl xA xn xc k rfl rfl hkc ?_
      refine wpYield_nil ?_
      refine held_eff 0 rfl (by kernel_rfl) rfl (fun K hK => ?_)
      go_simp
      refine hK _ _ ⟨HCX.out (w5.drew.alloc (.cells #[] 33)) (gb_alloc (gb_drew S5.out.nw) _), ?_⟩
      clear hK K
      refine held_eff 12 rfl (by kernel_rfl) rfl (fun K hK => ?_)
      refine wp_app_lit T22 _ _ rfl w5.heap.size rfl rfl (HXR.out.nw (gb_drew S5.out.nw) (Nat.le_refl _)) S5.out.nw.size (T33one cs) (by unfold maxLen; omega) (Nat.le_refl _) ?_
      intro A6 c6 w6 o6 n6
      have n6' : Nw w5 w6 := gb_of_drew n6
      have O6 := Lib.hid o6; have S6 := Lib.hid (S5.out.more n6'); have R6 := Lib.hid (R5.out.nw n6'); have X6 := Lib.hid (Obj1.nw X5.out n6'); have HB6 := Lib.hid n6'.size
      clear o6 n6 n6'
      refine hK _ _ ⟨HCX.out _ S6.out.nw, ?_⟩
      clear hK K hc0
      refine held_seg' (l := [13]) (fuel := 0) rfl (by kernel_rfl) (by kernel_rfl) (by simp only [List.filterMap_cons, List.filterMap_nil, List.getElem?_toArray, List.getElem?_cons_succ, List.getElem?_cons_zero]; rfl) (fun _ _ d _ _ h => by cases d <;> exact h) (HCX.out _ S6.out.nw) ?_
      (refine wpYield_step rfl (fun K hK => ?_)
       apply Exists.intro
       refine ⟨fun w' hw' => ?_, ?_⟩
       · (go_simp; try with_reducible rfl)
       go_simp
       refine hK _ ?_
       clear hK K)
      refine wpYield_nil ?_
      refine wpAnyH_done (by kernel_rfl) ?_ _
      go_wp2_with (refine (set_any S6.out.rep O6.out.rd (Nat.le_refl _) (by omega) HXO.out I5.out.ok).mono ?_; intro e w7 h7; obtain ⟨he, s7, c7⟩ := S6.out.set h7; rw [HRR.out] at he; rw [HQS.out] at s7; subst he; have S7 := Lib.hid s7; have R7 := Lib.hid (R6.out.chgV S6.out.rep c7); have X7 := Lib.hid (W3.chg X6.out S6.out.rep c7)
                   have O7 := Lib.hid (show 0 < k → ∃ ys, Own w7 w5.heap.size 33 4 A6 k c6 ys from fun h0 => by
                     obtain ⟨r6, rfl, _⟩ := O6.out.some_ h0
                     exact ⟨_, own33_chg O6.out S6.out.rep c7⟩)
                   clear s7 c7 h7)
      go_loopw [15] (fun j wr => ∃ j' : Nat, j' ≤ k ∧ j = .int .i64 j' ∧ PlayRel2 w w5 ga gb vx ⟨xt, xg, xs⟩ qs ps A6 k c6 wr) (fun j _ => k - (intOf j).toNat)
      case atStart => exact ⟨0, Nat.zero_le _, rfl, S7.out, R7.out, X7.out, O7.out⟩
      case round =>
        obtain ⟨j, hj, rfl, s8, r8, x8, o8⟩ := hrel
        have S8 := Lib.hid s8; have R8 := Lib.hid r8; have X8 := Lib.hid x8; have O8 := Lib.hid o8; clear s8 r8 x8 o8
        clear S6 R6 X6 O6 S7 R7 X7 O7
        by_cases hlj : j < k
        · obtain ⟨ys, ho⟩ := O8.out (by omega)
          obtain ⟨r6, rfl, hr6⟩ := ho.some_ (by omega)
          obtain ⟨u, _, hcu, hfu⟩ := ho.cellN (k := j * 4) (by omega)
          have HO := Lib.hid ho; have HRB := Lib.hid (Nat.le_trans S5.out.nw.size hr6); clear ho hr6
          go_wp2
          obtain ⟨o9, g9⟩ := HO.out.set (j * 4) (.int .i64 (-9))
          exact ⟨⟨j + 1, hlj, by go_num, ⟨S8.out.rep.grow (show wr.grownBy _ (Value.slice (some ⟨r6, 0, none⟩) k c6).ownBlock from g9) HO.out (by decide) (by decide), S8.out.ge, nw_of_gb S8.out.nw g9 (by intro x e; injection e with e; have := HRB.out; omega)⟩, R8.out.grow (show wr.grownBy _ (Value.slice (some ⟨r6, 0, none⟩) k c6).ownBlock from g9) HO.out (by decide) (by decide),
            Obj1.eq X8.out (g9.block vx X8.out.lt (by intro e; injection e with e; obtain ⟨cur, hc⟩ := HO.out.obj; exact X8.out.ne hc (by decide) e)), fun _ => ⟨_, o9⟩⟩, by simp [intOf]; omega⟩
        · have hj' : j = k := by omega
          subst hj'
          obtain ⟨w10, hw10⟩ : ∃ w10, w10 = wr := ⟨_, rfl⟩
          subst hw10
          go_wp2_with fail
          refine wp_region_held (S := (fun w' => w'.cell? ⟨b, off + i, none⟩ = some (.slice xA xn xc))) (by kernel_rfl) ?_
          change wpAnyH _ _ _ _ _ _ _ _ (World.drew w10)
          have hc0 := HCX.out _ (gb_drew S8.out.nw)
          refine held_seg' (l := [0, 1, 2, 3, 4, 5, 6, 7, 8, 9, 10, 11, 12]) (fuel := 2) rfl (by kernel_rfl) (by kernel_rfl) (by simp only [List.filterMap_cons, List.filterMap_nil, List.getElem?_toArray, List.getElem?_cons_succ, List.getElem?_cons_zero]; rfl) (fun _ _ d _ _ h => by cases d <;> exact h) hc0 ?_
          iterate 11 (refine wpYield_step rfl (fun K hK => ?_)
                      apply Exists.intro
                      refine ⟨fun w' hw' => ?_, ?_⟩
                      · (go_simp; try with_reducible rfl)
                      go_simp
                      refine hK _ ?_
                      clear hK K)
          refine wpYield_min _ _ _ rfl rfl xn 20 rfl rfl HK.out ?_
          refine wpYield_slice_hi 22 33 Try.underlying22 i33 _ _ rfl rfl xA xn xc j rfl rfl hkc ?_
          refine wpYield_nil ?_
          refine held_eff 13 rfl (by kernel_rfl) rfl (fun K hK => ?_)
          go_simp
          have S9 := Lib.hid (S8.out.more (gb_drew (Nw.refl w10))); have R9 := Lib.hid (R8.out.nw (gb_drew (Nw.refl w10))); have X9 := Lib.hid (Obj1.nw X8.out (gb_drew (Nw.refl w10)))
          refine (rset_any R9.out (HXR.out.nw S9.out.nw (Nat.le_refl _)) S9.out.nw.size (by omega)).mono ?_
          rintro e w11 ⟨he, r11, c11⟩
          rw [HRR.out] at he
          rw [HQS.out] at r11
          subst he
          have S11 := Lib.hid (S9.out.chgR R9.out HGB.out c11); have X11 := Lib.hid (W3.chgR X9.out R9.out c11); have R11 := Lib.hid r11
          refine hK _ _ ⟨HCX.out _ S11.out.nw, ?_⟩
          clear hK K hc0 c11 S9 R9 X9 S8 R8 X8
          refine held_seg' (l := [14]) (fuel := 0) rfl (by kernel_rfl) (by kernel_rfl) (by simp only [List.filterMap_cons, List.filterMap_nil, List.getElem?_toArray, List.getElem?_cons_succ, List.getElem?_cons_zero]; rfl) (fun _ _ d _ _ h => by cases d <;> exact h) (HCX.out _ S11.out.nw) ?_
          (refine wpYield_step rfl (fun K hK => ?_)
           apply Exists.intro
           refine ⟨fun w' hw' => ?_, ?_⟩
           · (go_simp; try with_reducible rfl)
           go_simp
           refine hK _ ?_
           clear hK K)
          refine wpYield_nil ?_
          refine wpAnyH_done (by kernel_rfl) ?_ _
          obtain ⟨rl, rcc, hv⟩ := r11
          have h1 := hv.obj
          have h2 := hv.row
          rw [LQ.out] at h1 h2
          have HRV := Lib.hid (show ∀ w', Nw w11 w' → w'.cell? ⟨gb, 0, none⟩ = some (.slice (some ⟨rl, 0, none⟩) N rcc) ∧ Own w' 0 31 3 (some ⟨rl, 0, none⟩) N rcc (fl wc qs) from fun w' n => ⟨(h1.nw n).cell 0, h2.nw n⟩)
          clear hv h1 h2
          have HE := Lib.hid (eqL_self qs)
          go_wp2_with (first | (refine (same_any OA12.out.rd (HRV.out _ N12.out).2.rd (Nat.le_refl _) (by omega) (by omega)).mono ?_; rw [HE.out]; rintro e w13 ⟨rfl, n13⟩; have N13 := Lib.hid (gb_trans N12.out n13); have OA13 := Lib.hid (OA12.out.nw n13); clear n13) |
            (refine (all_any S11.out.rep).mono ?_; rintro e w12 ⟨A12, n12, c12, rfl, o12, n12'⟩; have N12 := Lib.hid n12'; have hn12 := o12.lenL wc_len (by omega); have hn12' : n12 = N := (by have := LQ.out; omega); subst hn12'; obtain ⟨l12, rfl, _⟩ := o12.some_ (by omega); have OA12 := Lib.hid o12; have c0 := (HRV.out _ n12').1; clear o12 n12' hn12))
          clear c0
          go_loopw [18] (fun m wr => ∃ m' : Nat, m' ≤ n12 ∧ m = .int .i64 m' ∧ PlayRel3 w11 l12 n12 c12 wr) (fun m _ => n12 - (intOf m).toNat)
          case atStart => exact ⟨0, Nat.zero_le _, rfl, N13.out, _, OA13.out⟩
          case round =>
            obtain ⟨m, hm, rfl, n14, ys, o14⟩ := hrel
            have N14 := Lib.hid n14; have O14 := Lib.hid o14; clear n14 o14
            by_cases hlm : m < n12
            · obtain ⟨u, _, hcu, hfu⟩ := O14.out.cellN (k := m * 3 + 2) (by omega)
              go_wp2
              obtain ⟨o15, g15⟩ := O14.out.set (m * 3 + 2) (.int .i64 99)
              exact ⟨⟨m + 1, hlm, by go_num, nw_of_gb N14.out g15 O14.out.blk, _, o15⟩, by simp [intOf]; omega⟩
            · have hm' : n12 = m := by omega
              subst hm'
              obtain ⟨w14, hw14⟩ : ∃ w14, w14 = wr := ⟨_, rfl⟩
              subst hw14
              have S14 := Lib.hid (S11.out.more N14.out); have R14 := Lib.hid (R11.out.nw N14.out); have X14 := Lib.hid (Obj1.nw X11.out N14.out)
              have HRV2 := Lib.hid (fun (w' : World) (n : Nw w14 w') => (HRV.out w' (gb_trans N14.out n)).1)
              clear N13 OA13 OA12 N12 N14 O14 S11 R11 X11
              obtain ⟨y, e, hat1, hat2⟩ := at_both qs bk
              obtain ⟨yt, yg, ys'⟩ := y
              have HAT1 := Lib.hid hat1; have HAT2 := Lib.hid hat2; clear hat1 hat2
              unfold wv pv at HAT1 HAT2
              obtain ⟨hv, hhv⟩ : ∃ hv, (look (heldOf qs) ⟨xt, xg, xs⟩).getD 0 = hv := ⟨_, rfl⟩
              obtain ⟨hb, hhb⟩ : ∃ hb, (look (heldOf qs) ⟨xt, xg, xs⟩).isSome = hb := ⟨_, rfl⟩
              have HHV := Lib.hid hhv; have HHB := Lib.hid hhb; clear hhv hhb
              go_wp2_with (first
                | (refine (rholder_any R21.out ⟨xt, xg, xs⟩ IQ.out.dup).mono ?_; rintro e w22 ⟨rfl, n22⟩; have S22 := Lib.hid (S21.out.more n22); have R22 := Lib.hid (R21.out.nw n22); have X22 := Lib.hid (Obj1.nw X21.out n22); have U22 := Lib.hid (Obj1.nw U21.out n22); have V22 := Lib.hid (Obj1.nw V21.out n22); clear n22; rw [HHV.out, HHB.out]; clear e0 e1 e2)
                | (refine (holder_any S20.out.rep ⟨xt, xg, xs⟩).mono ?_; rintro e w21 ⟨rfl, n21⟩; have S21 := Lib.hid (S20.out.more n21); have R21 := Lib.hid (R20.out.nw n21); have X21 := Lib.hid (Obj1.nw X20.out n21); have U21 := Lib.hid (Obj1.nw U20.out n21); have V21 := Lib.hid (Obj1.nw V20.out n21); clear n21; rw [HHV.out, HHB.out]; clear e0 e1 e2; obtain ⟨e0, e1, e2⟩ := w3cells X21.out)
                | (refine wpList_store_own (cs := wc ⟨yt, yg, ys'⟩) 31 _ _ rfl rfl rfl rfl rfl i31 (wc_one _) A19.out (by show 0 + 3 ≤ 1 * 3; omega) ?_; intro w20 s1 s2; have o3 := Own.row1' s1; rw [splice_all _ _ (by rfl)] at o3; have m3 := nw_of_gb B19.out s2 (by intro x e; injection e with e; subst e; exact C19.out); have V20 := Lib.hid (show Obj1 w20 v 31 (wc ⟨yt, yg, ys'⟩).toArray from o3); have S20 := Lib.hid (S18.out.more m3); have R20 := Lib.hid (R18.out.nw m3); have X20 := Lib.hid (Obj1.nw X18.out m3); have U20 := Lib.hid (Obj1.nw U18.out m3); clear o3 s1 s2 m3; obtain ⟨e0, e1, e2⟩ := w3cells X20.out)
                | (refine wpList_alloc (size := 3) 31 rfl rfl w.heap.size i0 H0.out HZ.out rfl (S18.out.nw).size ?_; intro v w19 a1 a2 a3; have A19 := Lib.hid a1; have B19 := Lib.hid a2; have C19 := Lib.hid a3; have S19 := Lib.hid (S18.out.more a2); have R19 := Lib.hid (R18.out.nw a2); have X19 := Lib.hid (Obj1.nw X18.out a2); have U19 := Lib.hid (Obj1.nw U18.out a2); clear a1 a2 a3)
                | (refine (HAT2.out _ _ R17.out).mono ?_; rintro e w18 ⟨rfl, n18⟩; have S18 := Lib.hid (S17.out.more n18); have R18 := Lib.hid (R17.out.nw n18); have X18 := Lib.hid (Obj1.nw X17.out n18); have U18 := Lib.hid (Obj1.nw U17.out n18); clear n18)
                | (refine wpList_store_own (cs := wc ⟨yt, yg, ys'⟩) 31 _ _ rfl rfl rfl rfl rfl i31 (wc_one _) A16.out (by show 0 + 3 ≤ 1 * 3; omega) ?_; intro w17 s1 s2; have o3 := Own.row1' s1; rw [splice_all _ _ (by rfl)] at o3; have m3 := nw_of_gb B16.out s2 (by intro x e; injection e with e; subst e; exact C16.out); have U17 := Lib.hid (show Obj1 w17 u 31 (wc ⟨yt, yg, ys'⟩).toArray from o3); have S17 := Lib.hid (S15.out.more m3); have R17 := Lib.hid (R15.out.nw m3); have X17 := Lib.hid (Obj1.nw X15.out m3); clear o3 s1 s2 m3)
                | (refine wpList_alloc (size := 3) 31 rfl rfl w.heap.size i0 H0.out HZ.out rfl (S15.out.nw).size ?_; intro u w16 a1 a2 a3; have A16 := Lib.hid a1; have B16 := Lib.hid a2; have C16 := Lib.hid a3; have S16 := Lib.hid (S15.out.more a2); have R16 := Lib.hid (R15.out.nw a2); have X16 := Lib.hid (Obj1.nw X15.out a2); clear a1 a2 a3)
                | (refine (HAT1.out _ _ S14.out.rep).mono ?_; rintro e w15 ⟨rfl, n15⟩; have S15 := Lib.hid (S14.out.more n15); have R15 := Lib.hid (R14.out.nw n15); have X15 := Lib.hid (Obj1.nw X14.out n15); clear n15)
                )
              clear S14 R14 X14 S15 R15 X15 S16 R16 X16 S17 R17 X17 U17 S18 R18 X18 U18 S19 R19 X19 U19 S20 R20 X20 U20 V20 S21 R21 X21 U21 V21
              have k1 : ∀ w', W3 w' vx xt xg xs → w'.cell? ⟨vx, 1, none⟩ = some (.int .i64 xg) := fun w' h => h.cell 1
              refine wp_region_held (S := (fun w' => W3 w' vx xt xg xs)) (by kernel_rfl) ?_
              change wpAnyH _ _ _ _ _ _ _ _ (World.drew w22)
              refine held_seg' (l := [0, 1, 2, 4, 5, 6]) (fuel := 4) rfl (by kernel_rfl) (by kernel_rfl) (by simp only [List.filterMap_cons, List.filterMap_nil, List.getElem?_toArray, List.getElem?_cons_succ, List.getElem?_cons_zero]; rfl) (fun _ _ d _ _ h => by cases d <;> exact h) (Obj1.nw X22.out (gb_drew (Nw.refl w22))) ?_
              iterate 6 (refine wpYield_step rfl (fun K hK => ?_)
                         apply Exists.intro
                         refine ⟨fun w' hw' => ?_, ?_⟩
                         · (go_simp; try with_reducible rfl)
                         go_simp
                         refine hK _ ?_
                         clear hK K)
              refine wpYield_nil ?_
              refine held_eff 3 rfl (by kernel_rfl) rfl (fun K hK => ?_)
              go_simp
              refine (in_any (S22.out.more (gb_drew (Nw.refl w22))).rep xg (fun x hx => (IQ.out.ok x hx).1)).mono ?_
              rintro e w23 ⟨A23, n23, c23, rfl, o23, m23⟩
              have m23' : Nw w22 w23 := gb_of_drew m23
              have S23 := Lib.hid (S22.out.more m23'); have R23 := Lib.hid (R22.out.nw m23'); have X23 := Lib.hid (Obj1.nw X22.out m23'); have U23 := Lib.hid (Obj1.nw U22.out m23'); have V23 := Lib.hid (Obj1.nw V22.out m23'); have G23 := Lib.hid o23
              clear o23 m23 m23'
              refine hK _ _ ⟨X23.out, ?_⟩
              clear hK K
              refine held_eff 7 rfl (by kernel_rfl) rfl (fun K hK => ?_)
              go_simp
              refine (rin_any R23.out xg).mono ?_
              rintro e w24 ⟨A24, n24, c24, rfl, o24, m24⟩
              have S24 := Lib.hid (S23.out.more m24); have R24 := Lib.hid (R23.out.nw m24); have X24 := Lib.hid (Obj1.nw X23.out m24); have U24 := Lib.hid (Obj1.nw U23.out m24); have V24 := Lib.hid (Obj1.nw V23.out m24); have G24 := Lib.hid (G23.out.nw m24); have J24 := Lib.hid o24
              have hg23 := G23.out.cap; have hg24 := o24.cap
              unfold maxLen at hg23 hg24
              clear o24 m24
              refine hK _ _ ⟨X24.out, ?_⟩
              clear hK K
              refine held_eff 8 rfl (by kernel_rfl) rfl (fun K hK => ?_)
              go_simp
              refine (samei_any _ _ _ _ _ _ _ _ _ _ (by omega) (by omega) G24.out.rd J24.out.rd).mono ?_
              rw [sameI_self]
              rintro e w25 ⟨rfl, m25⟩
              have S25 := Lib.hid (S24.out.more m25); have R25 := Lib.hid (R24.out.nw m25); have X25 := Lib.hid (Obj1.nw X24.out m25); have U25 := Lib.hid (Obj1.nw U24.out m25); have V25 := Lib.hid (Obj1.nw V24.out m25)
              clear m25
              refine hK _ _ ⟨X25.out, ?_⟩
              clear hK K k1 hg23 hg24
              clear S23 R23 X23 U23 V23 G23 S24 R24 X24 U24 V24 G24 J24 S22 R22 X22 U22 V22
              refine held_seg' (l := [9]) (fuel := 0) rfl (by kernel_rfl) (by kernel_rfl) (by simp only [List.filterMap_cons, List.filterMap_nil, List.getElem?_toArray, List.getElem?_cons_succ, List.getElem?_cons_zero]; rfl) (fun _ _ d _ _ h => by cases d <;> exact h) X25.out ?_
              (refine wpYield_step rfl (fun K hK => ?_)
               apply Exists.intro
               refine ⟨fun w' hw' => ?_, ?_⟩
               · (go_simp; try with_reducible rfl)
               go_simp
               refine hK _ ?_
               clear hK K)
              refine wpYield_nil ?_
              refine wpAnyH_done (by kernel_rfl) ?_ _
              have HLN := Lib.hid (show ∀ w', VRep w' ga qs → Calls Try.prog 14 #[pv ga] w' fun e w'' => e = .returned (.int .i64 n12) ∧ w' = w'' from fun w' h => by have := len_any h; rwa [LQ.out] at this)
              unfold pv at HLN
              have f0 : ∀ w', Nw w25 w' → w'.cell? ⟨u, 0, none⟩ = some (.int .i64 yt) := fun w' n => (w3cells (Obj1.nw U25.out n)).1
              have f1 : ∀ w', Nw w25 w' → w'.cell? ⟨u, 1, none⟩ = some (.int .i64 yg) := fun w' n => (w3cells (Obj1.nw U25.out n)).2.1
              have f2 : ∀ w', Nw w25 w' → w'.cell? ⟨u, 2, none⟩ = some (.int .i64 ys') := fun w' n => (w3cells (Obj1.nw U25.out n)).2.2
              have g0 : ∀ w', Nw w25 w' → w'.cell? ⟨v, 0, none⟩ = some (.int .i64 yt) := fun w' n => (w3cells (Obj1.nw V25.out n)).1
              have g1 : ∀ w', Nw w25 w' → w'.cell? ⟨v, 1, none⟩ = some (.int .i64 yg) := fun w' n => (w3cells (Obj1.nw V25.out n)).2.1
              have g2 : ∀ w', Nw w25 w' → w'.cell? ⟨v, 2, none⟩ = some (.int .i64 ys') := fun w' n => (w3cells (Obj1.nw V25.out n)).2.2
              obtain ⟨rl2, rc2, hv2⟩ := R25.out
              have ho2 := hv2.obj
              rw [LQ.out] at ho2
              have c0 : ∀ w', Nw w25 w' → w'.cell? ⟨gb, 0, none⟩ = some (.slice (some ⟨rl2, 0, none⟩) n12 rc2) := fun w' n => (ho2.nw n).cell 0
              clear ho2 hv2
              go_wp2_with fail
              refine wp_region_held (S := (fun w' => Nw w25 w')) (by kernel_rfl) ?_
              change wpAnyH _ _ _ _ _ _ _ _ (World.drew w25)
              refine held_seg' (l := [0, 1, 2, 3, 4, 5, 6, 7, 8, 9, 10, 11, 12, 13, 14, 15, 16, 17, 18, 19, 20, 21, 22, 23, 24, 25, 26, 27, 29, 30, 31, 32, 33]) (fuel := 3) rfl (by kernel_rfl) (by kernel_rfl) (by simp only [List.filterMap_cons, List.filterMap_nil, List.getElem?_toArray, List.getElem?_cons_succ, List.getElem?_cons_zero]; rfl) (fun _ _ d _ _ h => by cases d <;> exact h) (gb_drew (Nw.refl w25)) ?_
              iterate 5 (refine wpYield_step rfl (fun K hK => ?_)
                         apply Exists.intro
                         refine ⟨fun w' hw' => ?_, ?_⟩
                         · (go_simp; try with_reducible rfl)
                         go_simp
                         refine hK _ ?_
                         clear hK K)
              refine wpYield_eq_wh rfl true _ _ _ rfl rfl ⟨yt, yg, ys'⟩ ⟨yt, yg, ys'⟩ rfl rfl false (by simp) ?_
              iterate 27 (refine wpYield_step rfl (fun K hK => ?_)
                          apply Exists.intro
                          refine ⟨fun w' hw' => ?_, ?_⟩
                          · (go_simp; try with_reducible rfl)
                          go_simp
                          refine hK _ ?_
                          clear hK K)
              refine wpYield_nil ?_
              refine held_eff 28 rfl (by kernel_rfl) rfl (fun K hK => ?_)
              go_simp
              refine (HLN.out _ (S25.out.more (gb_drew (Nw.refl w25))).rep).mono ?_
              rintro e w26 ⟨rfl, rfl⟩
              refine hK _ _ ⟨gb_drew (Nw.refl w25), ?_⟩
              clear hK K
              refine held_seg' (l := [34, 35]) (fuel := 0) rfl (by kernel_rfl) (by kernel_rfl) (by simp only [List.filterMap_cons, List.filterMap_nil, List.getElem?_toArray, List.getElem?_cons_succ, List.getElem?_cons_zero]; rfl) (fun _ _ d _ _ h => by cases d <;> exact h) (gb_drew (Nw.refl w25)) ?_
              iterate 2 (refine wpYield_step rfl (fun K hK => ?_)
                         apply Exists.intro
                         refine ⟨fun w' hw' => ?_, ?_⟩
                         · (go_simp; try with_reducible rfl)
                         go_simp
                         refine hK _ ?_
                         clear hK K)
              refine wpYield_nil ?_
              refine wpAnyH_done (by kernel_rfl) ?_ _
              clear f0 f1 f2 g0 g1 g2 c0
              go_wp2
              exact ⟨⟨i + 1, by go_num, by omega, hlt1, qs, S25.out.more (gb_drew (Nw.refl w25)), R25.out.nw (gb_drew (Nw.refl w25)), Obj1.nw X25.out (gb_drew (Nw.refl w25)), IQ.out, LQ.out⟩, by simp [intOf]; omega⟩
    · have hcases : (¬ i < len) ∨ (i < len ∧ i = 60) := by omega
      clear hlt
      obtain ⟨rl, rcc, hv⟩ := R5.out
      have h1 := hv.obj
      rw [L5.out] at h1
      have c0 : ∀ w', Nw w5 w' → w'.cell? ⟨gb, 0, none⟩ = some (.slice (some ⟨rl, 0, none⟩) N rcc) := fun w' n => (h1.nw n).cell 0
      have HLN := Lib.hid (show ∀ w', VRep w' ga ps → Calls Try.prog 14 #[pv ga] w' fun e w'' => e = .returned (.int .i64 N) ∧ w' = w'' from fun w' h => by have := len_any h; rwa [L5.out] at this)
      unfold pv at HLN
      clear hv h1
      rcases hcases with hlt1 | ⟨hlt1, rfl⟩
      all_goals
        go_wp2_with fail
        refine wp_region_held (S := (fun w' => Nw w5 w')) (by kernel_rfl) ?_
        change wpAnyH _ _ _ _ _ _ _ _ (World.drew w5)
        refine held_seg' (l := [0, 2, 3, 4, 5, 6]) (fuel := 3) rfl (by kernel_rfl) (by kernel_rfl) (by simp only [List.filterMap_cons, List.filterMap_nil, List.getElem?_toArray, List.getElem?_cons_succ, List.getElem?_cons_zero]; rfl) (fun _ _ d _ _ h => by cases d <;> exact h) (gb_drew (Nw.refl w5)) ?_
        iterate 6 (refine wpYield_step rfl (fun K hK => ?_)
                   apply Exists.intro
                   refine ⟨fun w' hw' => ?_, ?_⟩
                   · (go_simp; try with_reducible rfl)
                   go_simp
                   refine hK _ ?_
                   clear hK K)
        refine wpYield_nil ?_
        refine held_eff 1 rfl (by kernel_rfl) rfl (fun K hK => ?_)
        go_simp
        refine (HLN.out _ (S5.out.more (gb_drew (Nw.refl w5))).rep).mono ?_
        rintro e w26 ⟨rfl, rfl⟩
        refine hK _ _ ⟨gb_drew (Nw.refl w5), ?_⟩
        clear hK K
        refine held_seg' (l := [7, 8]) (fuel := 0) rfl (by kernel_rfl) (by kernel_rfl) (by simp only [List.filterMap_cons, List.filterMap_nil, List.getElem?_toArray, List.getElem?_cons_succ, List.getElem?_cons_zero]; rfl) (fun _ _ d _ _ h => by cases d <;> exact h) (gb_drew (Nw.refl w5)) ?_
        iterate 2 (refine wpYield_step rfl (fun K hK => ?_)
                   apply Exists.intro
                   refine ⟨fun w' hw' => ?_, ?_⟩
                   · (go_simp; try with_reducible rfl)
                   go_simp
                   refine hK _ ?_
                   clear hK K)
        refine wpYield_nil ?_
        refine wpAnyH_done (by kernel_rfl) ?_ _
        clear c0
        go_wp2
        go_ret
        exact ⟨rfl, gb_trans S5.out.nw (gb_drew (Nw.refl w5))⟩
end Go.Proofs.Ytfpllllglpjipaa

