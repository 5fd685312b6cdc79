/- The library's swapRange and rotate, of rows of disks. -/
import Derived.Test.YtobifmndpkjlmaaJH
set_option linter.unusedVariables false
set_option linter.unusedSimpArgs false
/- The library's swapRange and rotate, of rows of disks. -/
namespace Go.Proofs.Ytobifmndpkjlmaa
open Go.RowKit Go.BW

theorem set_two (P Q R : List Nat) (x y : Nat) : ((P ++ x :: (Q ++ y :: R)).set P.length y).set (P.length + 1 + Q.length) x = P ++ y :: (Q ++ x :: R) := by
  rw [List.set_append_right _ _ (Nat.le_refl _), Nat.sub_self, List.set_cons_zero, List.set_append_right _ _ (by omega), show P.length + 1 + Q.length - P.length = Q.length + 1 by omega, List.set_cons_succ,
    List.set_append_right _ _ (Nat.le_refl _), Nat.sub_self, List.set_cons_zero]
theorem at_two (P Q R : List Nat) (x y : Nat) : (P ++ x :: (Q ++ y :: R))[P.length]? = some x ∧ (P ++ x :: (Q ++ y :: R))[P.length + 1 + Q.length]? = some y := by
  constructor
  · rw [List.getElem?_append_right (Nat.le_refl _), Nat.sub_self]; rfl
  · rw [List.getElem?_append_right (by omega), show P.length + 1 + Q.length - P.length = Q.length + 1 by omega, List.getElem?_cons_succ, List.getElem?_append_right (Nat.le_refl _), Nat.sub_self]; rfl
def SwapPost (g base n c : Nat) (L : List Nat) (w : World) (e : Ending) (w' : World) : Prop := e = .returned (.tuple #[]) ∧ Own w' base 3 1 (some ⟨g, 0, none⟩) n c (L.map nv) ∧ w.grownBy w' (some g)
set_option maxHeartbeats 8000000 in
theorem swapr_any {w : World} {base g n c a b k : Nat} {U V1 M V2 Z : List Nat} (ho : Own w base 3 1 (some ⟨g, 0, none⟩) n c ((U ++ (V1 ++ (M ++ (V2 ++ Z)))).map nv)) (h1 : V1.length = k) (h2 : V2.length = k) (hn : n ≤ 1000000) (f : Value) (ha : a = U.length) (hb : b = U.length + k + M.length) :
    Calls Try.prog 53 #[.slice (some ⟨g, 0, none⟩) n c, .int .i64 a, .int .i64 b, .int .i64 k, f] w (SwapPost g base n c (U ++ (V2 ++ (M ++ (V1 ++ Z)))) w) := by
  have hlen : (U ++ (V1 ++ (M ++ (V2 ++ Z)))).length = n := by have := ho.len; simpa using this
  simp only [List.length_append] at hlen
  have HO := Lib.hid ho; have H1 := Lib.hid h1; have H2 := Lib.hid h2; have HL := Lib.hid hlen; have HA := Lib.hid ha; have HB := Lib.hid hb
  have hbn : b + k ≤ n := by omega
  have hab : a + k ≤ b := by omega
  clear ho h1 h2 hlen ha hb
  go_enter Try.func53, Try.ntmps53
  go_wp2_with fail
  go_loopw [10] (fun v wr => ∃ (i : Nat) (Va Vb Vc Vd : List Nat), v = .int .i64 i ∧ i ≤ k ∧ Hid (V1 = Va ++ Vb) ∧ Hid (V2 = Vc ++ Vd) ∧ Hid (Va.length = i) ∧ Hid (Vc.length = i) ∧
    Hid (Own wr base 3 1 (some ⟨g, 0, none⟩) n c ((U ++ ((Vc ++ Vb) ++ (M ++ ((Va ++ Vd) ++ Z)))).map nv)) ∧ Hid (w.grownBy wr (some g))) (fun v _ => k - (intOf v).toNat)
  case atStart => exact ⟨0, [], V1, [], V2, rfl, Nat.zero_le _, Lib.hid rfl, Lib.hid rfl, Lib.hid rfl, Lib.hid rfl, HO, Lib.hid (gb_nw (Nw.refl _))⟩
  case round =>
    obtain ⟨i, Va, Vb, Vc, Vd, rfl, hi, hva, hvc, hla, hlc, ho, hg⟩ := hrel
    by_cases hlt : i < k
    · have hltz : (i : Int) < (k : Int) := by omega
      obtain ⟨x, Vb', hvb⟩ : ∃ x t, Vb = x :: t := by
        rcases Vb with _ | ⟨x, t⟩
        · have h1 := H1.out; rw [hva.out] at h1; simp at h1; have := hla.out; omega
        · exact ⟨x, t, rfl⟩
      obtain ⟨y, Vd', hvd⟩ : ∃ x t, Vd = x :: t := by
        rcases Vd with _ | ⟨x, t⟩
        · have h1 := H2.out; rw [hvc.out] at h1; simp at h1; have := hlc.out; omega
        · exact ⟨x, t, rfl⟩
      subst hvb; subst hvd
      have HLS := Lib.hid (show U ++ ((Vc ++ x :: Vb') ++ (M ++ ((Va ++ y :: Vd') ++ Z))) = (U ++ Vc) ++ x :: ((Vb' ++ (M ++ Va)) ++ y :: (Vd' ++ Z)) from by simp)
      have HLT := Lib.hid (show U ++ ((Vc ++ [y] ++ Vb') ++ (M ++ ((Va ++ [x] ++ Vd') ++ Z))) = (U ++ Vc) ++ y :: ((Vb' ++ (M ++ Va)) ++ x :: (Vd' ++ Z)) from by simp)
      have hvbl : Vb'.length + 1 + i = k := by have h1 := H1.out; rw [hva.out] at h1; simp at h1; have := hla.out; omega
      obtain ⟨p, hp⟩ : ∃ p, p = a + i := ⟨_, rfl⟩
      obtain ⟨q, hq⟩ : ∃ q, q = b + i := ⟨_, rfl⟩
      have HP := Lib.hid (show p = (U ++ Vc).length from by rw [hp, List.length_append, hlc.out, HA.out])
      have HQ := Lib.hid (show q = (U ++ Vc).length + 1 + (Vb' ++ (M ++ Va)).length from by
        rw [hq]; simp only [List.length_append]; have := hlc.out; have := hla.out; have := HB.out; omega)
      have hpn : p < n := by omega
      have hqn : q < n := by omega
      have hpz : (p : Int) < (n : Int) := by omega
      have hqz : (q : Int) < (n : Int) := by omega
      have e1 : IntKind.i64.wrap ((a : Int) + (i : Int)) = (p : Int) := by rw [IntKind.wrap_i64]; omega
      have e2 : IntKind.i64.wrap ((b : Int) + (i : Int)) = (q : Int) := by rw [IntKind.wrap_i64]; omega
      have hpq : p ≠ q := by omega
      have hat := at_two (U ++ Vc) (Vb' ++ (M ++ Va)) (Vd' ++ Z) x y
      rw [← HQ.out, ← HP.out, ← HLS.out] at hat
      have cp : wr.cell? ⟨g, p, none⟩ = some (.int .i64 (x : Int)) := by
        obtain ⟨u, h1, h2, _⟩ := ho.out.cellAt hpn
        rw [List.getElem?_map, hat.1] at h1
        injection h1 with h1; subst h1; exact h2
      have cq : wr.cell? ⟨g, q, none⟩ = some (.int .i64 (y : Int)) := by
        obtain ⟨u, h1, h2, _⟩ := ho.out.cellAt hqn
        rw [List.getElem?_map, hat.2] at h1
        injection h1 with h1; subst h1; exact h2
      have S3 := Lib.hid (And.intro cp cq)
      have HPN := Lib.hid hpn; have HQN := Lib.hid hqn; have HPQ := Lib.hid hpq; have HP2 := Lib.hid hp; have HQ2 := Lib.hid hq
      clear hat cp cq hpq hp hq
      go_wp2_with fail
      refine wp_region_U [21] (fun w' => w'.cell? ⟨g, p, none⟩ = some (.int .i64 (x : Int)) ∧ w'.cell? ⟨g, q, none⟩ = some (.int .i64 (y : Int))) (by kernel_rfl) ?_
      change wpU _ _ _ _ _ _ _ _ _ (World.drew wr)
      refine U_segP (r := [0, 1, 2, 3, 4, 5, 6, 7, 8, 9, 10, 11, 12]) (fuel := 11) rfl (by kernel_rfl) (by kernel_rfl) (by simp only [List.filterMap_cons, List.filterMap_nil, List.getElem?_toArray, List.getElem?_cons_succ, List.getElem?_cons_zero]; rfl) (fun _ _ d _ _ h => by cases d <;> exact h) (until_of S3.out) ?_
      iterate 13 (refine wpYield_step rfl (fun K hK => ?_)
                  apply Exists.intro
                  refine ⟨fun w' hw' => ?_, ?_⟩
                  · (go_simp; try with_reducible rfl)
                  go_simp
                  refine hK _ ?_
                  clear hK K)
      refine wpYield_nil ?_
      refine U_segL (r := [13]) (fuel := 10) rfl (by kernel_rfl) (by kernel_rfl) (by simp only [List.filterMap_cons, List.filterMap_nil, List.getElem?_toArray, List.getElem?_cons_succ, List.getElem?_cons_zero]; rfl) (fun _ _ d _ _ h => by cases d <;> exact h) S3.out ?_
      (refine wpYield_step rfl (fun K hK => ?_)
       apply Exists.intro
       refine ⟨fun w' hw' => ?_, ?_⟩
       · (go_simp; try with_reducible rfl)
       go_simp
       refine hK _ ?_
       clear hK K)
      refine wpYield_nil ?_
      refine U_segP (r := [14, 15, 16, 17, 18]) (fuel := 5) rfl (by kernel_rfl) (by kernel_rfl) (by simp only [List.filterMap_cons, List.filterMap_nil, List.getElem?_toArray, List.getElem?_cons_succ, List.getElem?_cons_zero]; rfl) (fun _ _ d _ _ h => by cases d <;> exact h) (until_of S3.out) ?_
      iterate 5 (refine wpYield_step rfl (fun K hK => ?_)
                 apply Exists.intro
                 refine ⟨fun w' hw' => ?_, ?_⟩
                 · (go_simp; try with_reducible rfl)
                 go_simp
                 refine hK _ ?_
                 clear hK K)
      refine wpYield_nil ?_
      refine U_segL (r := [19]) (fuel := 4) rfl (by kernel_rfl) (by kernel_rfl) (by simp only [List.filterMap_cons, List.filterMap_nil, List.getElem?_toArray, List.getElem?_cons_succ, List.getElem?_cons_zero]; rfl) (fun _ _ d _ _ h => by cases d <;> exact h) S3.out ?_
      (refine wpYield_step rfl (fun K hK => ?_)
       apply Exists.intro
       refine ⟨fun w' hw' => ?_, ?_⟩
       · (go_simp; try with_reducible rfl)
       go_simp
       refine hK _ ?_
       clear hK K)
      refine wpYield_nil ?_
      refine U_segP (r := [20]) (fuel := 3) rfl (by kernel_rfl) (by kernel_rfl) (by simp only [List.filterMap_cons, List.filterMap_nil, List.getElem?_toArray, List.getElem?_cons_succ, List.getElem?_cons_zero]; rfl) (fun _ _ d _ _ h => by cases d <;> exact h) (until_of S3.out) ?_
      (refine wpYield_step rfl (fun K hK => ?_)
       apply Exists.intro
       refine ⟨fun w' hw' => ?_, ?_⟩
       · (go_simp; try with_reducible rfl)
       go_simp
       refine hK _ ?_
       clear hK K)
      refine wpYield_nil ?_
      refine U_eff 21 rfl (by kernel_rfl) rfl (fun K hK => ?_)
      obtain ⟨u0, _, c0, f0⟩ := (ho.out.drew).cellAt hpn
      go_simp
      refine hK _ _ ⟨until_past (by kernel_rfl), ?_⟩
      clear hK K
      have o4 : Own (wr.setCell ⟨g, p, none⟩ (.int .i64 (y : Int))).drew base 3 1 (some ⟨g, 0, none⟩) n c (((U ++ ((Vc ++ x :: Vb') ++ (M ++ ((Va ++ y :: Vd') ++ Z)))).map nv).set p (.int .i64 (y : Int))) := (ho.out.set p (.int .i64 (y : Int))).1.drew
      have g4 : w.grownBy (wr.setCell ⟨g, p, none⟩ (.int .i64 (y : Int))).drew (some g) := gb_drew (gb_trans hg.out (ho.out.set p (.int .i64 (y : Int))).2)
      obtain ⟨wc, hwc⟩ : ∃ wc, (wr.setCell ⟨g, p, none⟩ (.int .i64 (y : Int))).drew = wc := ⟨_, rfl⟩
      rw [hwc] at o4 g4 ⊢
      have O4 := Lib.hid o4; have G4 := Lib.hid g4
      clear hwc f0 c0 o4 g4
      refine U_segP (r := [22]) (fuel := 1) rfl (by kernel_rfl) (by kernel_rfl) (by simp only [List.filterMap_cons, List.filterMap_nil, List.getElem?_toArray, List.getElem?_cons_succ, List.getElem?_cons_zero]; rfl) (fun _ _ d _ _ h => by cases d <;> exact h) (until_past (by kernel_rfl)) ?_
      (refine wpYield_step rfl (fun K hK => ?_)
       apply Exists.intro
       refine ⟨fun w' hw' => ?_, ?_⟩
       · (go_simp; try with_reducible rfl)
       go_simp
       refine hK _ ?_
       clear hK K)
      refine wpYield_nil ?_
      refine U_eff 23 rfl (by kernel_rfl) rfl (fun K hK => ?_)
      obtain ⟨u1, _, c1, f1⟩ := O4.out.cellAt hqn
      go_simp
      refine hK _ _ ⟨until_past (by kernel_rfl), ?_⟩
      clear hK K
      refine U_done (by kernel_rfl) ?_ _
      obtain ⟨o5, g5⟩ := O4.out.set q (.int .i64 (x : Int))
      obtain ⟨wd, hwd⟩ : ∃ wd, (wc.setCell ⟨g, q, none⟩ (.int .i64 (x : Int))) = wd := ⟨_, rfl⟩
      rw [hwd] at o5 g5 ⊢
      have O5 := Lib.hid o5; have G5 := Lib.hid (gb_trans G4.out g5)
      have HNL := Lib.hid (show (((U ++ ((Vc ++ x :: Vb') ++ (M ++ ((Va ++ y :: Vd') ++ Z)))).map nv).set p (.int .i64 (y : Int))).set q (.int .i64 (x : Int)) = (U ++ ((Vc ++ [y] ++ Vb') ++ (M ++ ((Va ++ [x] ++ Vd') ++ Z)))).map nv from by
        rw [HLS.out, HLT.out]
        have e5 := set_two (U ++ Vc) (Vb' ++ (M ++ Va)) (Vd' ++ Z) x y
        rw [← HQ.out, ← HP.out] at e5
        rw [← e5, List.map_set, List.map_set]; rfl)
      clear hwd c1 f1 o5 g5
      go_wp2
      go_roundw
      case rel =>
        refine ⟨i + 1, Va ++ [x], Vb', Vc ++ [y], Vd', by go_num, by omega, Lib.hid (by rw [hva.out]; simp), Lib.hid (by rw [hvc.out]; simp), Lib.hid (by rw [List.length_append, hla.out]; rfl), Lib.hid (by rw [List.length_append, hlc.out]; rfl), Lib.hid ?_, by first | exact G5 | exact Lib.hid (gb_drew G5.out)⟩
        have := O5.out
        rw [HNL.out] at this
        exact this
      case measure => simp only [intOf]; omega
    · have hik : i = k := by omega
      have hvb : Vb = [] := by
        have h1 := H1.out; rw [hva.out] at h1; simp at h1; have := hla.out
        exact List.eq_nil_of_length_eq_zero (by omega)
      have hvd : Vd = [] := by
        have h1 := H2.out; rw [hvc.out] at h1; simp at h1; have := hlc.out
        exact List.eq_nil_of_length_eq_zero (by omega)
      have HF := Lib.hid (show Own wr base 3 1 (some ⟨g, 0, none⟩) n c ((U ++ (V2 ++ (M ++ (V1 ++ Z)))).map nv) from by
        have h := ho.out
        rw [hvb, hvd, List.append_nil, List.append_nil] at h
        have h1 := hva.out; have h2 := hvc.out
        rw [hvb, List.append_nil] at h1
        rw [hvd, List.append_nil] at h2
        rw [h1, h2]; exact h)
      clear hik hvb hvd
      go_wp2
      go_end0
      exact ⟨rfl, HF.out, hg.out⟩
def RotPost (g base n c : Nat) (L : List Nat) (w : World) (e : Ending) (w' : World) : Prop := e = .returned (.tuple #[]) ∧ Own w' base 3 1 (some ⟨g, 0, none⟩) n c (L.map nv) ∧ w.grownBy w' (some g)
set_option maxHeartbeats 8000000 in
theorem rotate_any {w : World} {base g n c a m b : Nat} {U X Y Z : List Nat} (ho : Own w base 3 1 (some ⟨g, 0, none⟩) n c ((U ++ (X ++ (Y ++ Z))).map nv)) (hn : n ≤ 1000000) (f : Value) (ha : a = U.length) (hm : m = a + X.length) (hb : b = m + Y.length) (hx : 0 < X.length) (hy : 0 < Y.length) :
    Calls Try.prog 52 #[.slice (some ⟨g, 0, none⟩) n c, .int .i64 a, .int .i64 m, .int .i64 b, f] w (RotPost g base n c (U ++ (Y ++ (X ++ Z))) w) := by
  have hlen : (U ++ (X ++ (Y ++ Z))).length = n := by have := ho.len; simpa using this
  simp only [List.length_append] at hlen
  have HO := Lib.hid ho; have HA := Lib.hid ha; have HMM := Lib.hid hm; have HBB := Lib.hid hb; have HXL := Lib.hid hx; have HYL := Lib.hid hy
  have hbn : b ≤ n := by omega
  have ham : a < m := by omega
  have hmb : m < b := by omega
  have ex : (m : Int) - (a : Int) = (X.length : Int) := by omega
  have ey : (b : Int) - (m : Int) = (Y.length : Int) := by omega
  clear ho hlen ha hm hb hx hy
  go_enter Try.func52, Try.ntmps52
  go_wp2_with fail
  go_loopw [10, 11] (fun v u wr => ∃ (i j : Nat) (P X' Y' S : List Nat), v = .int .i64 i ∧ u = .int .i64 j ∧ 0 < i ∧ 0 < j ∧ i ≤ m ∧ m + j ≤ n ∧ Hid (X'.length = i) ∧ Hid (Y'.length = j) ∧ Hid (P.length + i = m) ∧
    Hid (P ++ (Y' ++ (X' ++ S)) = U ++ (Y ++ (X ++ Z))) ∧ Hid (Own wr base 3 1 (some ⟨g, 0, none⟩) n c ((P ++ (X' ++ (Y' ++ S))).map nv)) ∧ Hid (w.grownBy wr (some g))) (fun v u _ => (intOf v).toNat + (intOf u).toNat)
  case atStart => exact ⟨X.length, Y.length, U, X, Y, Z, by first | rfl | rw [ex], by first | rfl | rw [ey], HXL.out, HYL.out, by have := HMM.out; omega, by have := HBB.out; omega, Lib.hid rfl, Lib.hid rfl, Lib.hid (by have := HMM.out; have := HA.out; omega), Lib.hid rfl, HO, Lib.hid (gb_nw (Nw.refl _))⟩
  case round =>
    obtain ⟨i, j, P, X', Y', S, rfl, rfl, hi0, hj0, him, hjn, hx', hy', hp, ht, ho, hg⟩ := hrel
    have e1 : (m : Int) - (i : Int) = ((m - i : Nat) : Int) := by omega
    clear ex ey
    rcases Nat.lt_trichotomy i j with hlt | heq | hgt
    · -- the first row is shorter: it goes to the end
      have h1 : ((i : Int) != (j : Int)) = true := by rw [bne_iff_ne]; omega
      have h2 : ¬ (j : Int) < (i : Int) := by omega
      obtain ⟨Y1, Y2, hyy, hy2⟩ : ∃ Y1 Y2, Y' = Y1 ++ Y2 ∧ Y2.length = i := ⟨Y'.take (j - i), Y'.drop (j - i), (List.take_append_drop _ _).symm, by rw [List.length_drop, hy'.out]; omega⟩
      have hy1 : Y1.length = j - i := by have := hy'.out; rw [hyy, List.length_append] at this; omega
      have e2 : (m : Int) + (j : Int) - (i : Int) = ((m + j - i : Nat) : Int) := by omega
      have e3 : (j : Int) - (i : Int) = ((j - i : Nat) : Int) := by omega
      have o1 : Own wr base 3 1 (some ⟨g, 0, none⟩) n c ((P ++ (X' ++ (Y1 ++ (Y2 ++ S)))).map nv) := by have := ho.out; rw [hyy] at this; simpa using this
      have HS := Lib.hid (swapr_any (a := m - i) (b := m + j - i) o1 hx'.out hy2 hn f (by have := hp.out; omega) (by have := hp.out; omega))
      have HT := Lib.hid (show P ++ (Y1 ++ (Y2 ++ (X' ++ S))) = U ++ (Y ++ (X ++ Z)) from by have := ht.out; rw [hyy] at this; simpa using this)
      have HY1 := Lib.hid hy1; have HY2 := Lib.hid hy2
      unfold SwapPost at HS
      clear hyy hy1 hy2 o1 ht hy'
      go_wp2_with ((with_reducible refine HS.out.mono ?_); rintro e w2 ⟨rfl, o2, g2⟩; have O2 := Lib.hid o2; have G2 := Lib.hid g2; clear o2 g2)
      go_roundw
      case rel => exact ⟨i, j - i, P, Y2, Y1, X' ++ S, rfl, by first | rfl | rw [e3], hi0, by omega, him, by omega, HY2, HY1, hp, HT, O2, Lib.hid (gb_trans hg.out G2.out)⟩
      case measure => simp only [intOf]; omega
    · subst heq
      have h1 : ((i : Int) != (i : Int)) = false := by simp
      have HS := Lib.hid (swapr_any (M := []) (a := m - i) (b := m) ho.out hx'.out hy'.out hn f (by have := hp.out; omega) (by have := hp.out; simp; omega))
      unfold SwapPost at HS
      go_wp2_with ((with_reducible refine HS.out.mono ?_); rintro e w2 ⟨rfl, o2, g2⟩; have O2 := Lib.hid o2; have G2 := Lib.hid g2; clear o2 g2)
      go_end0
      refine ⟨rfl, ?_, gb_trans hg.out G2.out⟩
      have := O2.out
      rw [List.nil_append, ht.out] at this
      exact this
    · have h1 : ((i : Int) != (j : Int)) = true := by rw [bne_iff_ne]; omega
      have h2 : (j : Int) < (i : Int) := by omega
      obtain ⟨X1, X2, hxx, hx1⟩ : ∃ X1 X2, X' = X1 ++ X2 ∧ X1.length = j := ⟨X'.take j, X'.drop j, (List.take_append_drop _ _).symm, by rw [List.length_take, hx'.out]; omega⟩
      have hx2 : X2.length = i - j := by have := hx'.out; rw [hxx, List.length_append] at this; omega
      have e3 : (i : Int) - (j : Int) = ((i - j : Nat) : Int) := by omega
      have o1 : Own wr base 3 1 (some ⟨g, 0, none⟩) n c ((P ++ (X1 ++ (X2 ++ (Y' ++ S)))).map nv) := by have := ho.out; rw [hxx] at this; simpa using this
      have HS := Lib.hid (swapr_any (a := m - i) (b := m) o1 hx1 hy'.out hn f (by have := hp.out; omega) (by have := hp.out; omega))
      have HT := Lib.hid (show (P ++ Y') ++ (X1 ++ (X2 ++ S)) = U ++ (Y ++ (X ++ Z)) from by have := ht.out; rw [hxx] at this; simpa using this)
      have HX1 := Lib.hid hx1; have HX2 := Lib.hid hx2
      unfold SwapPost at HS
      have HPL := Lib.hid (show (P ++ Y').length + (i - j) = m from by have := hp.out; rw [List.length_append, hy'.out]; omega)
      clear hxx hx1 hx2 o1 ht hx'
      go_wp2_with ((with_reducible refine HS.out.mono ?_); rintro e w2 ⟨rfl, o2, g2⟩; have O2 := Lib.hid o2; have G2 := Lib.hid g2; clear o2 g2)
      go_roundw
      case rel => exact ⟨i - j, j, P ++ Y', X2, X1, S, by first | rfl | rw [e3], rfl, by omega, hj0, by omega, hjn, HX2, HX1, HPL, HT, Lib.hid (by have := O2.out; simpa using this), Lib.hid (gb_trans hg.out G2.out)⟩
      case measure => simp only [intOf]; omega
end Go.Proofs.Ytobifmndpkjlmaa


/- The library's symMerge by byRoom's comparison: two rows in their order become one. -/
namespace Go.Proofs.Ytobifmndpkjlmaa
open Go.RowKit Go.BW

def MergePost (g base n c : Nat) (rs : List Int) (U X Y Z : List Nat) (w : World) (e : Ending) (w' : World) : Prop :=
  e = .returned (.tuple #[]) ∧ ∃ M : List Nat, M.Perm (X ++ Y) ∧ M.Pairwise (bef rs) ∧ Own w' base 3 1 (some ⟨g, 0, none⟩) n c ((U ++ (M ++ Z)).map nv) ∧ w.grownBy w' (some g)
theorem Cmp.drewN {w : World} {g y N cR : Nat} {AR : Option Addr} {rs : List Int} (h : Cmp w g y AR N cR rs) (k : Nat) : Cmp (w.drewN k) g y AR N cR rs := ⟨h.cell, h.ne, h.rd.drewN k, h.ns, h.len⟩
/-- a cell of an own row of disks -/
theorem dcell {w : World} {base g n c p x : Nat} {L : List Nat} (h : Own w base 3 1 (some ⟨g, 0, none⟩) n c (L.map nv)) (hx : L[p]? = some x) : w.cell? ⟨g, p, none⟩ = some (.int .i64 (x : Int)) ∧ w.frozen? ⟨g, p, none⟩ = false ∧ p < n := by
  have hp : p < n := by have h1 := (List.getElem?_eq_some_iff.1 hx).1; have h2 := h.len; simp at h2; omega
  obtain ⟨u, h1, h2, h3⟩ := h.cellAt hp
  rw [List.getElem?_map, hx] at h1
  injection h1 with h1; subst h1
  exact ⟨h2, h3, hp⟩
theorem cmp_call {w : World} {g y N cR : Nat} {AR : Option Addr} {rs : List Int} (hc : Cmp w g y AR N cR rs) {a b : Nat} (ha : a < N) (hb : b < N) :
    ∀ m, Calls Try.prog 40 #[.int .i64 a, .int .i64 b, .pointer (some ⟨y, 0, none⟩)] (w.drewN m) fun e w' => e = .returned (.int .i64 (cmpf (rs.getD b 0) (rs.getD a 0))) ∧ ∃ k, w' = (w.drewN m).drewN k := fun m =>
  byroom_any (w := w.drewN m) (hc.rd.drewN m) hc.ns hc.cell a b ha hb
/-- the merging of one into a row -/
theorem put_left {rs : List Int} {Y1 Y2 : List Nat} {x : Nat} (hY : (Y1 ++ Y2).Pairwise (bef rs)) (h1 : ∀ y ∈ Y1, rs.getD x 0 < rs.getD y 0) (h2 : ∀ y ∈ Y2, ¬ rs.getD x 0 < rs.getD y 0) (hx : ∀ y ∈ Y1 ++ Y2, x < y) : (Y1 ++ x :: Y2).Pairwise (bef rs) := by
  rw [List.pairwise_append] at hY ⊢
  refine ⟨hY.1, List.pairwise_cons.2 ⟨fun y hy => ?_, hY.2.1⟩, fun a ha b hb => ?_⟩
  · have := h2 y hy
    have := hx y (List.mem_append_right _ hy)
    unfold bef; omega
  · rcases List.mem_cons.1 hb with rfl | hb
    · exact .inl (h1 a ha)
    · exact hY.2.2 a ha b hb
theorem put_right {rs : List Int} {X1 X2 : List Nat} {y : Nat} (hX : (X1 ++ X2).Pairwise (bef rs)) (h1 : ∀ x ∈ X1, ¬ rs.getD x 0 < rs.getD y 0) (h2 : ∀ x ∈ X2, rs.getD x 0 < rs.getD y 0) (hy : ∀ x ∈ X1 ++ X2, x < y) : (X1 ++ y :: X2).Pairwise (bef rs) := by
  rw [List.pairwise_append] at hX ⊢
  refine ⟨hX.1, List.pairwise_cons.2 ⟨fun x hx => .inl (h2 x hx), hX.2.1⟩, fun a ha b hb => ?_⟩
  rcases List.mem_cons.1 hb with rfl | hb
  · have := h1 a ha
    have := hy a (List.mem_append_left _ ha)
    unfold bef; omega
  · exact hX.2.2 a ha b hb
/-- rooms fall along a row in its order -/
theorem fall_at {rs : List Int} {Y : List Nat} (h : Y.Pairwise (bef rs)) {p q : Nat} (hp : p < Y.length) (hq : q < Y.length) (hpq : p ≤ q) : rs.getD Y[q] 0 ≤ rs.getD Y[p] 0 := by
  rcases Nat.lt_or_ge p q with h1 | h1
  · have := List.pairwise_iff_getElem.1 h p q hp hq h1
    unfold bef at this; omega
  · have : p = q := by omega
    subst this; omega
/-- two halves, each ahead of the other, merged -/
theorem join_halves {rs : List Int} {A1 A2 B1 B2 M1 M2 : List Nat} (hA : (A1 ++ A2).Pairwise (bef rs)) (hB : (B1 ++ B2).Pairwise (bef rs)) (h12 : ∀ a ∈ A1, ∀ b ∈ B2, bef rs a b) (h21 : ∀ b ∈ B1, ∀ a ∈ A2, bef rs b a)
    (p1 : M1.Perm (A1 ++ B1)) (p2 : M2.Perm (A2 ++ B2)) (s1 : M1.Pairwise (bef rs)) (s2 : M2.Pairwise (bef rs)) : (M1 ++ M2).Pairwise (bef rs) ∧ (M1 ++ M2).Perm (A1 ++ A2 ++ (B1 ++ B2)) := by
  rw [List.pairwise_append] at hA hB ⊢
  refine ⟨⟨s1, s2, fun a ha b hb => ?_⟩, ?_⟩
  · rcases List.mem_append.1 ((p1.mem_iff).1 ha) with ha | ha <;> rcases List.mem_append.1 ((p2.mem_iff).1 hb) with hb | hb
    · exact hA.2.2 a ha b hb
    · exact h12 a ha b hb
    · exact h21 a ha b hb
    · exact hB.2.2 a ha b hb
  · refine (p1.append p2).trans ?_
    rw [List.append_assoc, List.append_assoc]
    refine List.Perm.append_left A1 ?_
    rw [← List.append_assoc, ← List.append_assoc]
    exact List.Perm.append_right B2 List.perm_append_comm
end Go.Proofs.Ytobifmndpkjlmaa


/- The library's symMerge where both rows have more than one: by halves. -/
namespace Go.Proofs.Ytobifmndpkjlmaa
open Go.RowKit Go.BW

/-- symMerge of two rows that lie side by side, together shorter than the number -/
def SymmAt (fuel : Nat) : Prop := ∀ (w : World) (base g y n c N cR a m b : Nat) (AR : Option Addr) (rs : List Int) (U X Y Z : List Nat), Own w base 3 1 (some ⟨g, 0, none⟩) n c ((U ++ (X ++ (Y ++ Z))).map nv) → Cmp w g y AR N cR rs → n ≤ 1000000 →
    (∀ x ∈ X ++ Y, x < N) → X.Pairwise (bef rs) → Y.Pairwise (bef rs) → (∀ x ∈ X, ∀ y ∈ Y, x < y) → a = U.length → m = a + X.length → b = m + Y.length → a < m → m < b → b - a < fuel →
    Calls Try.prog 51 #[.slice (some ⟨g, 0, none⟩) n c, .int .i64 a, .int .i64 m, .int .i64 b, .func (.func 40) #[] #[.pointer (some ⟨y, 0, none⟩)]] w (MergePost g base n c rs U X Y Z w)
/-- the halves that the search finds -/
theorem halves {rs : List Int} {X Y : List Nat} (hX : X.Pairwise (bef rs)) (hY : Y.Pairwise (bef rs)) (hxy : ∀ x ∈ X, ∀ y ∈ Y, x < y) (s e : Nat) (hs : s ≤ X.length) (he : e ≤ Y.length)
    (h1 : 0 < s → e < Y.length → ∃ p q, ∃ hp : p < X.length, ∃ hq : q < Y.length, p + 1 = s ∧ q = e ∧ rs.getD Y[q] 0 ≤ rs.getD X[p] 0)
    (h2 : s < X.length → 0 < e → ∃ p q, ∃ hp : p < X.length, ∃ hq : q < Y.length, p = s ∧ q + 1 = e ∧ rs.getD X[p] 0 < rs.getD Y[q] 0) :
    ∃ A1 A2 B1 B2 : List Nat, X = A1 ++ A2 ∧ Y = B1 ++ B2 ∧ A1.length = s ∧ A2.length = X.length - s ∧ B1.length = e ∧ B2.length = Y.length - e ∧ (∀ a ∈ A1, ∀ b ∈ B2, bef rs a b) ∧ (∀ b ∈ B1, ∀ a ∈ A2, bef rs b a) := by
  refine ⟨X.take s, X.drop s, Y.take e, Y.drop e, (List.take_append_drop s X).symm, (List.take_append_drop e Y).symm, List.length_take_of_le hs, List.length_drop, List.length_take_of_le he, List.length_drop, fun a ha b hb => ?_, fun b hb a ha => ?_⟩
  · obtain ⟨i, hi, rfl⟩ := List.mem_take_iff_getElem.1 ha
    obtain ⟨j, hj, rfl⟩ := List.getElem_of_mem hb
    rw [List.length_drop] at hj
    rw [List.getElem_drop]
    obtain ⟨p, q, hp, hq, e1, e2, e3⟩ := h1 (by omega) (by omega)
    have a1 := fall_at hX (p := i) (q := p) (by omega) hp (by omega)
    have a2 := fall_at hY (p := q) (q := e + j) hq (by omega) (by omega)
    have a3 := hxy _ (List.getElem_mem (l := X) (n := i) (by omega)) _ (List.getElem_mem (l := Y) (n := e + j) (by omega))
    unfold bef; omega
  · obtain ⟨i, hi, rfl⟩ := List.mem_take_iff_getElem.1 hb
    obtain ⟨j, hj, rfl⟩ := List.getElem_of_mem ha
    rw [List.length_drop] at hj
    rw [List.getElem_drop]
    obtain ⟨p, q, hp, hq, e1, e2, e3⟩ := h2 (by omega) (by omega)
    have a1 := fall_at hX (p := p) (q := s + j) hp (by omega) (by omega)
    have a2 := fall_at hY (p := i) (q := q) (by omega) hq (by omega)
    unfold bef; omega

set_option maxRecDepth 100000 in
set_option maxHeartbeats 16000000 in
theorem both_any (fuel : Nat) (ih : SymmAt fuel) (w : World) (base g y n c N cR a m b : Nat) (AR : Option Addr) (rs : List Int) (U X Y Z : List Nat) (ho : Own w base 3 1 (some ⟨g, 0, none⟩) n c ((U ++ (X ++ (Y ++ Z))).map nv)) (hc : Cmp w g y AR N cR rs) (hn : n ≤ 1000000)
    (hN : ∀ x ∈ X ++ Y, x < N) (hX : X.Pairwise (bef rs)) (hY : Y.Pairwise (bef rs)) (hxy : ∀ x ∈ X, ∀ y ∈ Y, x < y) (ha : a = U.length) (hm : m = a + X.length) (hb : b = m + Y.length) (hX1 : 1 < m - a) (hY1 : 1 < b - m) (hfu : b - a < fuel + 1) :
    Calls Try.prog 51 #[.slice (some ⟨g, 0, none⟩) n c, .int .i64 a, .int .i64 m, .int .i64 b, .func (.func 40) #[] #[.pointer (some ⟨y, 0, none⟩)]] w (MergePost g base n c rs U X Y Z w) := by
  have hlen : (U ++ (X ++ (Y ++ Z))).length = n := by have := ho.len; simpa using this
  simp only [List.length_append] at hlen
  have hbn : b ≤ n := by omega
  have ham : a < m := by omega
  have hmb : m < b := by omega
  have HO := Lib.hid ho; have HC := Lib.hid hc; have HN := Lib.hid hN; have HX := Lib.hid hX; have HY := Lib.hid hY; have HXY := Lib.hid hxy; have HA := Lib.hid ha; have HM := Lib.hid hm; have HB := Lib.hid hb
  have IH := Lib.hid ih
  have hglt : g < w.heap.size := by obtain ⟨cur, h⟩ := ho.obj; exact h.lt
  have HG := Lib.hid hglt
  have hz1 : ((m : Int) - (a : Int) == 1) = false := by rw [beq_eq_false_iff_ne]; omega
  have hz2 : ((b : Int) - (m : Int) == 1) = false := by rw [beq_eq_false_iff_ne]; omega
  clear ho hc hN hX hY hxy ha hm hb ih hlen hglt
  obtain ⟨mid, hmid⟩ : ∃ mid, mid = (a + b) / 2 := ⟨_, rfl⟩
  have hmid1 : a < mid ∧ mid < b ∧ 2 * mid ≤ a + b ∧ a + b ≤ 2 * mid + 1 := by omega
  have emid : ((a : Int) + (b : Int)) / 2 = (mid : Int) := by omega
  have HXL := Lib.hid (show X.length = m - a from by have := HM.out; omega)
  have HYL := Lib.hid (show Y.length = b - m from by have := HB.out; omega)
  have HXA := Lib.hid (show ∀ p, (hp : p < X.length) → (U ++ (X ++ (Y ++ Z)))[a + p]? = some X[p] from fun p hp => by
    rw [List.getElem?_append_right (by have := HA.out; omega), List.getElem?_append_left (by have := HA.out; omega)]
    have : a + p - U.length = p := by have := HA.out; omega
    rw [this, List.getElem?_eq_getElem hp])
  have HYA := Lib.hid (show ∀ p, (hp : p < Y.length) → (U ++ (X ++ (Y ++ Z)))[m + p]? = some Y[p] from fun p hp => by
    have h1 := HM.out; have h2 := HA.out
    rw [List.getElem?_append_right (by omega), List.getElem?_append_right (by omega), List.getElem?_append_left (by omega)]
    have : m + p - U.length - X.length = p := by omega
    rw [this, List.getElem?_eq_getElem hp])
  -- the bounds of the search
  obtain ⟨lo, hlo⟩ : ∃ lo, lo = if mid < m then mid + m - b else a := ⟨_, rfl⟩
  obtain ⟨hi, hhi⟩ : ∃ hi, hi = if mid < m then mid else m := ⟨_, rfl⟩
  have hbd : a ≤ lo ∧ lo ≤ hi ∧ hi ≤ m ∧ hi ≤ mid ∧ mid + m ≤ b + lo := by
    by_cases h : mid < m
    · rw [if_pos h] at hlo hhi; omega
    · rw [if_neg h] at hlo hhi; omega
  have HED := Lib.hid (show ∀ s, lo ≤ s → s ≤ hi → (a < s → mid + m - s < b → s ≠ lo) ∧ (s < m → m < mid + m - s → s ≠ hi) from fun s h1 h2 => by
    by_cases h : mid < m
    · rw [if_pos h] at hlo hhi; omega
    · rw [if_neg h] at hlo hhi; omega)
  obtain ⟨pp, hpp⟩ : ∃ pp, pp + 1 = mid + m := ⟨mid + m - 1, by omega⟩
  have HPP := Lib.hid hpp
  have HMID := Lib.hid hmid
  have epp : (mid : Int) + (m : Int) - 1 = (pp : Int) := by omega
  obtain ⟨ha1, ha2, ha3, ha4, ha5⟩ := hbd
  obtain ⟨hb1, hb2, hb3, hb4⟩ := hmid1
  have HLOV := Lib.hid hlo; have HHIV := Lib.hid hhi
  clear hmid hpp hlo hhi hX1 hY1
  go_enter Try.func51, Try.ntmps51
  go_upto_if 140 with fail
  go_cut [20, 21] from 140 to 147 (fun u v wx => u = .int .i64 lo ∧ v = .int .i64 hi ∧ w = wx)
  case first =>
    by_cases h : mid < m
    · have h' : (mid : Int) < (m : Int) := by omega
      have e1 : lo = mid + m - b := by have := HLOV.out; rwa [if_pos h] at this
      have e2 : hi = mid := by have := HHIV.out; rwa [if_pos h] at this
      have E1 := Lib.hid e1; have E2 := Lib.hid e2
      clear e1 e2
      go_wp2_with fail
      go_meet
      exact ⟨by rw [E1.out]; go_num, by rw [E2.out], rfl⟩
    · have h' : ¬ (mid : Int) < (m : Int) := by omega
      have e1 : lo = a := by have := HLOV.out; rwa [if_neg h] at this
      have e2 : hi = m := by have := HHIV.out; rwa [if_neg h] at this
      have E1 := Lib.hid e1; have E2 := Lib.hid e2
      clear e1 e2
      go_wp2_with fail
      go_meet
      exact ⟨by rw [E1.out], by rw [E2.out], rfl⟩
  case rest =>
    obtain ⟨rfl, rfl, rfl⟩ := hcut
    go_wp2_with fail
    go_loopw [20, 21] (fun u v wr => ∃ s r : Nat, u = .int .i64 s ∧ v = .int .i64 r ∧ lo ≤ s ∧ s ≤ r ∧ r ≤ hi ∧
      Hid (s = lo ∨ ∃ p q, ∃ hp : p < X.length, ∃ hq : q < Y.length, a + p + 1 = s ∧ m + q + (a + p) = pp ∧ rs.getD Y[q] 0 ≤ rs.getD X[p] 0) ∧
      Hid (r = hi ∨ ∃ p q, ∃ hp : p < X.length, ∃ hq : q < Y.length, a + p = r ∧ m + q + (a + p) = pp ∧ rs.getD X[p] 0 < rs.getD Y[q] 0) ∧
      Hid (Own wr base 3 1 (some ⟨g, 0, none⟩) n c ((U ++ (X ++ (Y ++ Z))).map nv)) ∧ Hid (Cmp wr g y AR N cR rs) ∧ Hid (w.grownBy wr (some g))) (fun u v _ => (intOf v).toNat - (intOf u).toNat)
    case atStart => exact ⟨lo, hi, rfl, rfl, Nat.le_refl _, ha2, Nat.le_refl _, Lib.hid (.inl rfl), Lib.hid (.inl rfl), HO, HC, Lib.hid (gb_nw (Nw.refl _))⟩
    case round =>
      obtain ⟨s, r, rfl, rfl, hls, hsr, hrh, hl1, hl2, hor, hcr, hgr⟩ := hrel
      by_cases hlt : s < r
      · have hltz : (s : Int) < (r : Int) := by omega
        obtain ⟨h, hh⟩ : ∃ h, h = (s + r) / 2 := ⟨_, rfl⟩
        have hhi1 : s ≤ h ∧ h < r := by omega
        obtain ⟨hh1, hh2⟩ := hhi1
        obtain ⟨p, hp⟩ : ∃ p, h = a + p := ⟨h - a, by omega⟩
        obtain ⟨k, hk⟩ : ∃ k, pp = h + k := ⟨pp - h, by have := HPP.out; omega⟩
        obtain ⟨q, hq⟩ : ∃ q, k = m + q := ⟨k - m, by have := HPP.out; omega⟩
        have hpl : p < X.length := by have := HXL.out; omega
        have hql : q < Y.length := by have := HYL.out; have := HPP.out; omega
        obtain ⟨x, hx⟩ : ∃ x, X[p] = x := ⟨_, rfl⟩
        obtain ⟨z, hz⟩ : ∃ z, Y[q] = z := ⟨_, rfl⟩
        have cz := dcell hor.out (HYA.out q hql)
        rw [hz, ← hq] at cz
        have cx := dcell hor.out (HXA.out p hpl)
        rw [hx, ← hp] at cx
        have hc1 := cz.1; have hc2 := cx.1
        have hkn : k < n := cz.2.2
        have hhn : h < n := cx.2.2
        have hkz : (k : Int) < (n : Int) := by omega
        have hhz : (h : Int) < (n : Int) := by omega
        have ek : (pp : Int) - (h : Int) = (k : Int) := by omega
        have hzN : z < N := HN.out z (by rw [← hz]; exact List.mem_append_right _ (List.getElem_mem _))
        have hxN : x < N := HN.out x (by rw [← hx]; exact List.mem_append_left _ (List.getElem_mem _))
        have HB40 := Lib.hid (cmp_call hcr.out hzN hxN)
        have hneg := cmpf_neg (x := rs.getD x 0) (y := rs.getD z 0)
        obtain ⟨rr, hr⟩ : ∃ rr, cmpf (rs.getD x 0) (rs.getD z 0) = rr := ⟨_, rfl⟩
        rw [hr] at HB40 hneg
        have HZ := Lib.hid hz; have HZX := Lib.hid hx; have HH := Lib.hid hh; have HP := Lib.hid hp; have HQ := Lib.hid hq; have HK := Lib.hid hk
        have eh : ((s : Int) + (r : Int)) / 2 = (h : Int) := by omega
        have HPL := Lib.hid hpl; have HQL := Lib.hid hql
        clear hr hz hx hh hp hq hk cz cx
        by_cases hless : rs.getD x 0 < rs.getD z 0
        · rw [decide_eq_true hless] at hneg
          have HL2 := Lib.hid (show h = hi ∨ ∃ p q, ∃ hp : p < X.length, ∃ hq : q < Y.length, a + p = h ∧ m + q + (a + p) = pp ∧ rs.getD X[p] 0 < rs.getD Y[q] 0 from
            .inr ⟨p, q, HPL.out, HQL.out, by have := HP.out; omega, by have := HP.out; have := HQ.out; have := HK.out; omega, by rw [HZ.out, HZX.out]; exact hless⟩)
          clear hless
          go_wp2_with fail
          go_quiet (exact Calls.quiet_of (HB40.out _))
          go_wp2
          go_roundw
          case rel => exact ⟨s, h, rfl, by go_num, hls, hh1, by omega, hl1, HL2, Lib.hid (hor.out.drewN nq), Lib.hid (hcr.out.drewN nq), Lib.hid (gb_drewN hgr.out nq)⟩
          case measure => simp only [intOf]; omega
        · rw [decide_eq_false hless] at hneg
          have HL2 := Lib.hid (show h + 1 = lo ∨ ∃ p q, ∃ hp : p < X.length, ∃ hq : q < Y.length, a + p + 1 = h + 1 ∧ m + q + (a + p) = pp ∧ rs.getD Y[q] 0 ≤ rs.getD X[p] 0 from
            .inr ⟨p, q, HPL.out, HQL.out, by have := HP.out; omega, by have := HP.out; have := HQ.out; have := HK.out; omega, by rw [HZ.out, HZX.out]; omega⟩)
          clear hless
          go_wp2_with fail
          go_quiet (exact Calls.quiet_of (HB40.out _))
          go_wp2
          go_roundw
          case rel => exact ⟨h + 1, r, by go_num, rfl, by omega, by omega, hrh, HL2, hl2, Lib.hid (hor.out.drewN nq), Lib.hid (hcr.out.drewN nq), Lib.hid (gb_drewN hgr.out nq)⟩
          case measure => simp only [intOf]; omega
      · have hsr2 : r = s := by omega
        have hnz : ¬ (s : Int) < (r : Int) := by omega
        obtain ⟨en, hen⟩ : ∃ en, en + s = mid + m := ⟨mid + m - s, by omega⟩
        have een : (mid : Int) + (m : Int) - (s : Int) = (en : Int) := by omega
        obtain ⟨A1, A2, B1, B2, d1, d2, l1, l2, l3, l4, h12, h21⟩ := halves HX.out HY.out HXY.out (s - a) (mid - s) (by have := HXL.out; omega) (by have := HYL.out; omega)
          (fun hs he => by
            rcases hl1.out with h | ⟨p, q, hp, hq, f1, f2, f3⟩
            · exact absurd h ((HED.out s hls (by omega)).1 (by omega) (by have := HYL.out; omega))
            · exact ⟨p, q, hp, hq, by omega, by have := HPP.out; omega, f3⟩)
          (fun hs he => by
            rcases hl2.out with h | ⟨p, q, hp, hq, f1, f2, f3⟩
            · exact absurd (hsr2 ▸ h) ((HED.out s hls (by omega)).2 (by have := HXL.out; omega) (by omega))
            · exact ⟨p, q, hp, hq, by omega, by have := HPP.out; omega, f3⟩)
        have hen1 : m ≤ en := by omega
        have hen2 : en ≤ b := by omega
        have hsm : s ≤ m := by omega
        have has : a ≤ s := by omega
        have hsd : s ≤ mid := by omega
        have hde : mid ≤ en := by omega
        have D1 := Lib.hid d1; have D2 := Lib.hid d2; have H12 := Lib.hid h12; have H21 := Lib.hid h21
        have L1 := Lib.hid (show s = a + A1.length from by omega)
        have L2 := Lib.hid (show m = s + A2.length from by have := HXL.out; omega)
        have L3 := Lib.hid (show en = m + B1.length from by omega)
        have L4 := Lib.hid (show b = en + B2.length from by have := HYL.out; omega)
        have L5 := Lib.hid (show mid = s + B1.length from by omega)
        have L6 := Lib.hid (show en = mid + A2.length from by have := HXL.out; omega)
        have HOW := Lib.hid (show Own wr base 3 1 (some ⟨g, 0, none⟩) n c (((U ++ A1) ++ (A2 ++ (B1 ++ (B2 ++ Z)))).map nv) from by have := hor.out; rw [d1, d2] at this; simpa using this)
        clear hl1 hl2 d1 d2 l1 l2 l3 l4 h12 h21 hsr2 hen hor
        have E0 := Lib.hid (show U ++ (A1 ++ (A2 ++ (B1 ++ (B2 ++ Z)))) = (U ++ A1) ++ (A2 ++ (B1 ++ (B2 ++ Z))) from by simp)
        clear epp emid
        go_upto_region 39 with fail
        go_cut [185] from 178 to 185 (fun c' wx => ∃ cb : Bool, c' = .bool cb ∧ cb = decide (s < m ∧ m < en) ∧ wr = wx)
        case first =>
          by_cases h1 : (s : Int) < (m : Int)
          · by_cases h2 : (m : Int) < (en : Int)
            · go_wp2_with fail
              go_meet
              exact ⟨_, rfl, (decide_eq_true (by omega)).symm, rfl⟩
            · go_wp2_with fail
              go_meet
              exact ⟨_, rfl, (decide_eq_false (by omega)).symm, rfl⟩
          · go_wp2_with fail
            go_meet
            exact ⟨_, rfl, (decide_eq_false (by omega)).symm, rfl⟩
        case rest =>
        obtain ⟨cb, rfl, hcb, rfl⟩ := hcut
        have HCB := Lib.hid hcb; clear hcb
        go_upto_if 185 with fail
        go_cut [20] from 186 to 192 (fun s' wx => s' = .int .i64 s ∧ Hid (Own wx base 3 1 (some ⟨g, 0, none⟩) n c ((U ++ (A1 ++ (B1 ++ (A2 ++ (B2 ++ Z))))).map nv)) ∧ Hid (Cmp wx g y AR N cR rs) ∧ Hid (w.grownBy wx (some g)))
        case first =>
          cases cb with
          | true =>
            have h1 : s < m ∧ m < en := of_decide_eq_true HCB.out.symm
            have HS := Lib.hid (rotate_any HOW.out hn (.func (.func 40) #[] #[.pointer (some ⟨y, 0, none⟩)]) (a := s) (m := m) (b := en) (by rw [List.length_append, ← HA.out]; exact L1.out) L2.out L3.out (by have := L2.out; omega) (by have := L3.out; omega))
            unfold RotPost at HS
            clear h1 HCB
            go_wp2_with ((with_reducible refine HS.out.mono ?_); rintro e w2 ⟨rfl, o2, g2⟩; have O2 := Lib.hid o2; have G2 := Lib.hid g2; clear o2 g2)
            go_meet
            have hgr2 : g < wr.heap.size := Nat.lt_of_lt_of_le HG.out hgr.out.size
            exact ⟨rfl, Lib.hid (by have := O2.out; simpa using this), Lib.hid (hcr.out.gb G2.out hgr2), Lib.hid (gb_trans hgr.out G2.out)⟩
          | false =>
            have h1 : ¬ (s < m ∧ m < en) := of_decide_eq_false HCB.out.symm
            have HE := Lib.hid (show A2 = [] ∨ B1 = [] from by
              by_cases h4 : s < m
              · exact .inr (List.eq_nil_of_length_eq_zero (by have := L3.out; omega))
              · exact .inl (List.eq_nil_of_length_eq_zero (by have := L2.out; omega)))
            clear h1 HCB
            go_wp2_with fail
            go_meet
            exact ⟨rfl, Lib.hid (by have := HOW.out; rcases HE.out with h | h <;> (rw [h] at this ⊢; simpa using this)), hcr, hgr⟩
        case rest =>
          obtain ⟨rfl, how1, hcr1, hgr1⟩ := hcut
          go_upto_region 41 with fail
          go_cut [199] from 192 to 199 (fun c' wx => ∃ cb : Bool, c' = .bool cb ∧ cb = decide (a < s ∧ s < mid) ∧ wc = wx)
          case first =>
            by_cases h1 : (a : Int) < (s : Int)
            · by_cases h2 : (s : Int) < (mid : Int)
              · go_wp2_with fail
                go_meet
                exact ⟨_, rfl, (decide_eq_true (by omega)).symm, rfl⟩
              · go_wp2_with fail
                go_meet
                exact ⟨_, rfl, (decide_eq_false (by omega)).symm, rfl⟩
            · go_wp2_with fail
              go_meet
              exact ⟨_, rfl, (decide_eq_false (by omega)).symm, rfl⟩
          case rest =>
          obtain ⟨cb, rfl, hcb, rfl⟩ := hcut
          have HCB := Lib.hid hcb; clear hcb
          go_upto_if 199 with fail
          go_cut [20] from 200 to 206 (fun s' wx => s' = .int .i64 s ∧ ∃ M1 : List Nat, Hid (M1.Perm (A1 ++ B1)) ∧ Hid (M1.Pairwise (bef rs)) ∧ Hid (Own wx base 3 1 (some ⟨g, 0, none⟩) n c ((U ++ (M1 ++ (A2 ++ (B2 ++ Z)))).map nv)) ∧ Hid (Cmp wx g y AR N cR rs) ∧ Hid (w.grownBy wx (some g)))
          case first =>
            cases cb with
            | true =>
              have h1 : a < s ∧ s < mid := of_decide_eq_true HCB.out.symm
              have HS := Lib.hid (IH.out _ base g y n c N cR a s mid AR rs U A1 B1 (A2 ++ (B2 ++ Z)) how1.out hcr1.out hn (fun x hx => by rcases List.mem_append.1 hx with hx | hx; exact HN.out x (List.mem_append_left _ (by rw [D1.out]; exact List.mem_append_left _ hx)); exact HN.out x (List.mem_append_right _ (by rw [D2.out]; exact List.mem_append_left _ hx))) (List.pairwise_append.1 (D1.out ▸ HX.out)).1 (List.pairwise_append.1 (D2.out ▸ HY.out)).1 (fun x hx z hz => HXY.out x (by rw [D1.out]; exact List.mem_append_left _ hx) z (by rw [D2.out]; exact List.mem_append_left _ hz)) HA.out L1.out L5.out (by omega) (by omega) (by omega))
              unfold MergePost at HS
              clear h1 HCB
              go_wp2_with ((with_reducible refine HS.out.mono ?_); rintro e w2 ⟨rfl, M1, p1, s1, o2, g2⟩; have P1 := Lib.hid p1; have S1 := Lib.hid s1; have O2 := Lib.hid o2; have G2 := Lib.hid g2; clear p1 s1 o2 g2)
              go_meet
              have hgr2 : g < wc.heap.size := Nat.lt_of_lt_of_le HG.out hgr1.out.size
              exact ⟨rfl, M1, P1, S1, O2, Lib.hid (hcr1.out.gb G2.out hgr2), Lib.hid (gb_trans hgr1.out G2.out)⟩
            | false =>
              have h1 : ¬ (a < s ∧ s < mid) := of_decide_eq_false HCB.out.symm
              have HE := Lib.hid (show A1 = [] ∨ B1 = [] from by
                by_cases h4 : a < s
                · exact .inr (List.eq_nil_of_length_eq_zero (by have := L5.out; omega))
                · exact .inl (List.eq_nil_of_length_eq_zero (by have := L1.out; omega)))
              have S0 := Lib.hid (show A1.Pairwise (bef rs) ∧ B1.Pairwise (bef rs) from ⟨(List.pairwise_append.1 (D1.out ▸ HX.out)).1, (List.pairwise_append.1 (D2.out ▸ HY.out)).1⟩)
              clear h1 HCB
              go_wp2_with fail
              go_meet
              rcases HE.out with h | h
              · exact ⟨rfl, B1, Lib.hid (by rw [h, List.nil_append]), Lib.hid S0.out.2, Lib.hid (by have := how1.out; rw [h] at this; simpa using this), hcr1, hgr1⟩
              · exact ⟨rfl, A1, Lib.hid (by rw [h, List.append_nil]), Lib.hid S0.out.1, Lib.hid (by have := how1.out; rw [h] at this; simpa using this), hcr1, hgr1⟩
          case rest =>
            obtain ⟨rfl, M1, P1, S1, how2, hcr2, hgr2⟩ := hcut
            have LM := Lib.hid (show M1.length = A1.length + B1.length from by rw [P1.out.length_eq, List.length_append])
            by_cases h1 : (mid : Int) < (en : Int)
            · by_cases h2 : (en : Int) < (b : Int)
              · have HS := Lib.hid (IH.out _ base g y n c N cR mid en b AR rs (U ++ M1) A2 B2 Z (by simpa using how2.out) hcr2.out hn (fun x hx => by rcases List.mem_append.1 hx with hx | hx; exact HN.out x (List.mem_append_left _ (by rw [D1.out]; exact List.mem_append_right _ hx)); exact HN.out x (List.mem_append_right _ (by rw [D2.out]; exact List.mem_append_right _ hx))) (List.pairwise_append.1 (D1.out ▸ HX.out)).2.1 (List.pairwise_append.1 (D2.out ▸ HY.out)).2.1 (fun x hx z hz => HXY.out x (by rw [D1.out]; exact List.mem_append_right _ hx) z (by rw [D2.out]; exact List.mem_append_right _ hz)) (by rw [List.length_append, LM.out, ← HA.out]; have := L1.out; have := L5.out; omega) L6.out L4.out (by omega) (by omega) (by omega))
                unfold MergePost at HS
                go_wp2_with ((with_reducible refine HS.out.mono ?_); rintro e w2 ⟨rfl, M2, p1, s1, o2, g2⟩; have P2 := Lib.hid p1; have S2 := Lib.hid s1; have O2 := Lib.hid o2; have G2 := Lib.hid g2; clear p1 s1 o2 g2)
                go_end0
                obtain ⟨j1, j2⟩ := join_halves (D1.out ▸ HX.out) (D2.out ▸ HY.out) H12.out H21.out P1.out P2.out S1.out S2.out
                exact ⟨rfl, M1 ++ M2, by rw [D1.out, D2.out]; exact j2, j1, by have := O2.out; simpa using this, gb_trans hgr2.out G2.out⟩
              · have HE := Lib.hid (show B2 = [] from List.eq_nil_of_length_eq_zero (by have := L4.out; omega))
                go_wp2_with fail
                go_end0
                obtain ⟨j1, j2⟩ := join_halves (D1.out ▸ HX.out) (D2.out ▸ HY.out) H12.out H21.out P1.out (M2 := A2) (by rw [HE.out, List.append_nil]) S1.out (List.pairwise_append.1 (D1.out ▸ HX.out)).2.1
                exact ⟨rfl, M1 ++ A2, by rw [D1.out, D2.out]; exact j2, j1, by have := how2.out; rw [HE.out] at this; simpa using this, hgr2.out⟩
            · have HE := Lib.hid (show A2 = [] from List.eq_nil_of_length_eq_zero (by have := L6.out; omega))
              go_wp2_with fail
              go_end0
              obtain ⟨j1, j2⟩ := join_halves (D1.out ▸ HX.out) (D2.out ▸ HY.out) H12.out H21.out P1.out (M2 := B2) (by rw [HE.out, List.nil_append]) S1.out (List.pairwise_append.1 (D2.out ▸ HY.out)).2.1
              exact ⟨rfl, M1 ++ B2, by rw [D1.out, D2.out]; exact j2, j1, by have := how2.out; rw [HE.out] at this; simpa using this, hgr2.out⟩
end Go.Proofs.Ytobifmndpkjlmaa

