/- The library's swapRange and rotate, of rows of disks. -/
import Derived.Test.YtobifmndpkjlmaaP
namespace Go.Proofs.Ytobifmndpkjlmaa
open Go.RowKit Go.BW

theorem set_two (P Q R : List Nat) (x y : Nat) : ((P ++ x :: (Q ++ y :: R)).set P.length y).set (P.length + 1 + Q.length) x = P ++ y :: (Q ++ x :: R) := by
  rw [List.set_append_right _ _ (Nat.le_refl _), Nat.sub_self, List.set_cons_zero, List.set_append_right _ _ (by omega), show P.length + 1 + Q.length - P.length = Q.length + 1 by omega, List.set_cons_succ,
    List.set_append_right _ _ (Nat.le_refl _), Nat.sub_self, List.set_cons_zero]
theorem at_two (P Q R : List Nat) (x y : Nat) : (P ++ x :: (Q ++ y :: R))[P.length]? = some x ∧ (P ++ x :: (Q ++ y :: R))[P.length + 1 + Q.length]? = some y := by
  constructor
  · rw [List.getElem?_append_right (Nat.le_refl _), Nat.sub_self]; rfl
  · rw [List.getElem?_append_right (by omega), show P.length + 1 + Q.length - P.length = Q.length + 1 by omega, List.getElem?_cons_succ, List.getElem?_append_right (Nat.le_refl _), Nat.sub_self]; rfl
def SwapPost (g base n c : Nat) (L : List Nat) (w : World) (e : Ending) (w' : World) : Prop := e = .returned (.tuple #[]) ∧ Own w' base 3 1 (some ⟨g, 0, none⟩) n c (L.map nv) ∧ w.grownBy w' (some g)
set_option maxHeartbeats 8000000 in
theorem swapr_any {w : World} {base g n c a b k : Nat} {U V1 M V2 Z : List Nat} (ho : Own w base 3 1 (some ⟨g, 0, none⟩) n c ((U ++ (V1 ++ (M ++ (V2 ++ Z)))).map nv)) (h1 : V1.length = k) (h2 : V2.length = k) (hn : n ≤ 1000000) (f : Value) (ha : a = U.length) (hb : b = U.length + k + M.length) :
    Calls Try.prog 53 #[.slice (some ⟨g, 0, none⟩) n c, .int .i64 a, .int .i64 b, .int .i64 k, f] w (SwapPost g base n c (U ++ (V2 ++ (M ++ (V1 ++ Z)))) w) := by
  have hlen : (U ++ (V1 ++ (M ++ (V2 ++ Z)))).length = n := by have := ho.len; simpa using this
  simp only [List.length_append] at hlen
  have HO := Lib.hid ho; have H1 := Lib.hid h1; have H2 := Lib.hid h2; have HL := Lib.hid hlen; have HA := Lib.hid ha; have HB := Lib.hid hb
  have hbn : b + k ≤ n := by omega
  have hab : a + k ≤ b := by omega
  clear ho h1 h2 hlen ha hb
  go_enter Try.func53, Try.ntmps53
  go_wp2_with fail
  go_loopw [10] (fun v wr => ∃ (i : Nat) (Va Vb Vc Vd : List Nat), v = .int .i64 i ∧ i ≤ k ∧ Hid (V1 = Va ++ Vb) ∧ Hid (V2 = Vc ++ Vd) ∧ Hid (Va.length = i) ∧ Hid (Vc.length = i) ∧
    Hid (Own wr base 3 1 (some ⟨g, 0, none⟩) n c ((U ++ ((Vc ++ Vb) ++ (M ++ ((Va ++ Vd) ++ Z)))).map nv)) ∧ Hid (w.grownBy wr (some g))) (fun v _ => k - (intOf v).toNat)
  case atStart => exact ⟨0, [], V1, [], V2, rfl, Nat.zero_le _, Lib.hid rfl, Lib.hid rfl, Lib.hid rfl, Lib.hid rfl, HO, Lib.hid (gb_nw (Nw.refl _))⟩
  case round =>
    obtain ⟨i, Va, Vb, Vc, Vd, rfl, hi, hva, hvc, hla, hlc, ho, hg⟩ := hrel
    by_cases hlt : i < k
    · have hltz : (i : Int) < (k : Int) := by omega
      obtain ⟨x, Vb', hvb⟩ : ∃ x t, Vb = x :: t := by
        rcases Vb with _ | ⟨x, t⟩
        · have h1 := H1.out; rw [hva.out] at h1; simp at h1; have := hla.out; omega
        · exact ⟨x, t, rfl⟩
      obtain ⟨y, Vd', hvd⟩ : ∃ x t, Vd = x :: t := by
        rcases Vd with _ | ⟨x, t⟩
        · have h1 := H2.out; rw [hvc.out] at h1; simp at h1; have := hlc.out; omega
        · exact ⟨x, t, rfl⟩
      subst hvb; subst hvd
      have HLS := Lib.hid (show U ++ ((Vc ++ x :: Vb') ++ (M ++ ((Va ++ y :: Vd') ++ Z))) = (U ++ Vc) ++ x :: ((Vb' ++ (M ++ Va)) ++ y :: (Vd' ++ Z)) from by simp)
      have HLT := Lib.hid (show U ++ ((Vc ++ [y] ++ Vb') ++ (M ++ ((Va ++ [x] ++ Vd') ++ Z))) = (U ++ Vc) ++ y :: ((Vb' ++ (M ++ Va)) ++ x :: (Vd' ++ Z)) from by simp)
      have hvbl : Vb'.length + 1 + i = k := by have h1 := H1.out; rw [hva.out] at h1; simp at h1; have := hla.out; omega
      obtain ⟨p, hp⟩ : ∃ p, p = a + i := ⟨_, rfl⟩
      obtain ⟨q, hq⟩ : ∃ q, q = b + i := ⟨_, rfl⟩
      have HP := Lib.hid (show p = (U ++ Vc).length from by rw [hp, List.length_append, hlc.out, HA.out])
      have HQ := Lib.hid (show q = (U ++ Vc).length + 1 + (Vb' ++ (M ++ Va)).length from by
        rw [hq]; simp only [List.length_append]; have := hlc.out; have := hla.out; have := HB.out; omega)
      have hpn : p < n := by omega
      have hqn : q < n := by omega
      have hpz : (p : Int) < (n : Int) := by omega
      have hqz : (q : Int) < (n : Int) := by omega
      have e1 : IntKind.i64.wrap ((a : Int) + (i : Int)) = (p : Int) := by rw [IntKind.wrap_i64]; omega
      have e2 : IntKind.i64.wrap ((b : Int) + (i : Int)) = (q : Int) := by rw [IntKind.wrap_i64]; omega
      have hpq : p ≠ q := by omega
      have hat := at_two (U ++ Vc) (Vb' ++ (M ++ Va)) (Vd' ++ Z) x y
      rw [← HQ.out, ← HP.out, ← HLS.out] at hat
      have cp : wr.cell? ⟨g, p, none⟩ = some (.int .i64 (x : Int)) := by
        obtain ⟨u, h1, h2, _⟩ := ho.out.cellAt hpn
        rw [List.getElem?_map, hat.1] at h1
        injection h1 with h1; subst h1; exact h2
      have cq : wr.cell? ⟨g, q, none⟩ = some (.int .i64 (y : Int)) := by
        obtain ⟨u, h1, h2, _⟩ := ho.out.cellAt hqn
        rw [List.getElem?_map, hat.2] at h1
        injection h1 with h1; subst h1; exact h2
      have S3 := Lib.hid (And.intro cp cq)
      have HPN := Lib.hid hpn; have HQN := Lib.hid hqn; have HPQ := Lib.hid hpq; have HP2 := Lib.hid hp; have HQ2 := Lib.hid hq
      clear hat cp cq hpq hp hq
      go_wp2_with fail
      refine wp_region_U [21] (fun w' => w'.cell? ⟨g, p, none⟩ = some (.int .i64 (x : Int)) ∧ w'.cell? ⟨g, q, none⟩ = some (.int .i64 (y : Int))) (by kernel_rfl) ?_
      change wpU _ _ _ _ _ _ _ _ _ (World.drew wr)
      refine U_segP (r := [0, 1, 2, 3, 4, 5, 6, 7, 8, 9, 10, 11, 12]) (fuel := 11) rfl (by kernel_rfl) (by kernel_rfl) (by simp only [List.filterMap_cons, List.filterMap_nil, List.getElem?_toArray, List.getElem?_cons_succ, List.getElem?_cons_zero]; rfl) (fun _ _ d _ _ h => by cases d <;> exact h) (until_of S3.out) ?_
      iterate 13 (refine wpYield_step rfl (fun K hK => ?_)
                  apply Exists.intro
                  refine ⟨fun w' hw' => ?_, ?_⟩
                  · (go_simp; try with_reducible rfl)
                  go_simp
                  refine hK _ ?_
                  clear hK K)
      refine wpYield_nil ?_
      refine U_segL (r := [13]) (fuel := 10) rfl (by kernel_rfl) (by kernel_rfl) (by simp only [List.filterMap_cons, List.filterMap_nil, List.getElem?_toArray, List.getElem?_cons_succ, List.getElem?_cons_zero]; rfl) (fun _ _ d _ _ h => by cases d <;> exact h) S3.out ?_
      (refine wpYield_step rfl (fun K hK => ?_)
       apply Exists.intro
       refine ⟨fun w' hw' => ?_, ?_⟩
       · (go_simp; try with_reducible rfl)
       go_simp
       refine hK _ ?_
       clear hK K)
      refine wpYield_nil ?_
      refine U_segP (r := [14, 15, 16, 17, 18]) (fuel := 5) rfl (by kernel_rfl) (by kernel_rfl) (by simp only [List.filterMap_cons, List.filterMap_nil, List.getElem?_toArray, List.getElem?_cons_succ, List.getElem?_cons_zero]; rfl) (fun _ _ d _ _ h => by cases d <;> exact h) (until_of S3.out) ?_
      iterate 5 (refine wpYield_step rfl (fun K hK => ?_)
                 apply Exists.intro
                 refine ⟨fun w' hw' => ?_, ?_⟩
                 · (go_simp; try with_reducible rfl)
                 go_simp
                 refine hK _ ?_
                 clear hK K)
      refine wpYield_nil ?_
      refine U_segL (r := [19]) (fuel := 4) rfl (by kernel_rfl) (by kernel_rfl) (by simp only [List.filterMap_cons, List.filterMap_nil, List.getElem?_toArray, List.getElem?_cons_succ, List.getElem?_cons_zero]; rfl) (fun _ _ d _ _ h => by cases d <;> exact h) S3.out ?_
      (refine wpYield_step rfl (fun K hK => ?_)
       apply Exists.intro
       refine ⟨fun w' hw' => ?_, ?_⟩
       · (go_simp; try with_reducible rfl)
       go_simp
       refine hK _ ?_
       clear hK K)
      refine wpYield_nil ?_
      refine U_segP (r := [20]) (fuel := 3) rfl (by kernel_rfl) (by kernel_rfl) (by simp only [List.filterMap_cons, List.filterMap_nil, List.getElem?_toArray, List.getElem?_cons_succ, List.getElem?_cons_zero]; rfl) (fun _ _ d _ _ h => by cases d <;> exact h) (until_of S3.out) ?_
      (refine wpYield_step rfl (fun K hK => ?_)
       apply Exists.intro
       refine ⟨fun w' hw' => ?_, ?_⟩
       · (go_simp; try with_reducible rfl)
       go_simp
       refine hK _ ?_
       clear hK K)
      refine wpYield_nil ?_
      refine U_eff 21 rfl (by kernel_rfl) rfl (fun K hK => ?_)
      obtain ⟨u0, _, c0, f0⟩ := (ho.out.drew).cellAt hpn
      go_simp
      refine hK _ _ ⟨until_past (by kernel_rfl), ?_⟩
      clear hK K
      have o4 : Own (wr.setCell ⟨g, p, none⟩ (.int .i64 (y : Int))).drew base 3 1 (some ⟨g, 0, none⟩) n c (((U ++ ((Vc ++ x :: Vb') ++ (M ++ ((Va ++ y :: Vd') ++ Z)))).map nv).set p (.int .i64 (y : Int))) := (ho.out.set p (.int .i64 (y : Int))).1.drew
      have g4 : w.grownBy (wr.setCell ⟨g, p, none⟩ (.int .i64 (y : Int))).drew (some g) := gb_drew (gb_trans hg.out (ho.out.set p (.int .i64 (y : Int))).2)
      obtain ⟨wc, hwc⟩ : ∃ wc, (wr.setCell ⟨g, p, none⟩ (.int .i64 (y : Int))).drew = wc := ⟨_, rfl⟩
      rw [hwc] at o4 g4 ⊢
      have O4 := Lib.hid o4; have G4 := Lib.hid g4
      clear hwc f0 c0 o4 g4
      refine U_segP (r := [22]) (fuel := 1) rfl (by kernel_rfl) (by kernel_rfl) (by simp only [List.filterMap_cons, List.filterMap_nil, List.getElem?_toArray, List.getElem?_cons_succ, List.getElem?_cons_zero]; rfl) (fun _ _ d _ _ h => by cases d <;> exact h) (until_past (by kernel_rfl)) ?_
      (refine wpYield_step rfl (fun K hK => ?_)
       apply Exists.intro
       refine ⟨fun w' hw' => ?_, ?_⟩
       · (go_simp; try with_reducible rfl)
       go_simp
       refine hK _ ?_
       clear hK K)
      refine wpYield_nil ?_
      refine U_eff 23 rfl (by kernel_rfl) rfl (fun K hK => ?_)
      obtain ⟨u1, _, c1, f1⟩ := O4.out.cellAt hqn
      go_simp
      refine hK _ _ ⟨until_past (by kernel_rfl), ?_⟩
      clear hK K
      refine U_done (by kernel_rfl) ?_ _
      obtain ⟨o5, g5⟩ := O4.out.set q (.int .i64 (x : Int))
      obtain ⟨wd, hwd⟩ : ∃ wd, (wc.setCell ⟨g, q, none⟩ (.int .i64 (x : Int))) = wd := ⟨_, rfl⟩
      rw [hwd] at o5 g5 ⊢
      have O5 := Lib.hid o5; have G5 := Lib.hid (gb_trans G4.out g5)
      have HNL := Lib.hid (show (((U ++ ((Vc ++ x :: Vb') ++ (M ++ ((Va ++ y :: Vd') ++ Z)))).map nv).set p (.int .i64 (y : Int))).set q (.int .i64 (x : Int)) = (U ++ ((Vc ++ [y] ++ Vb') ++ (M ++ ((Va ++ [x] ++ Vd') ++ Z)))).map nv from by
        rw [HLS.out, HLT.out]
        have e5 := set_two (U ++ Vc) (Vb' ++ (M ++ Va)) (Vd' ++ Z) x y
        rw [← HQ.out, ← HP.out] at e5
        rw [← e5, List.map_set, List.map_set]; rfl)
      clear hwd c1 f1 o5 g5
      go_wp2
      go_roundw
      case rel =>
        refine ⟨i + 1, Va ++ [x], Vb', Vc ++ [y], Vd', by go_num, by omega, Lib.hid (by rw [hva.out]; simp), Lib.hid (by rw [hvc.out]; simp), Lib.hid (by rw [List.length_append, hla.out]; rfl), Lib.hid (by rw [List.length_append, hlc.out]; rfl), Lib.hid ?_, by first | exact G5 | exact Lib.hid (gb_drew G5.out)⟩
        have := O5.out
        rw [HNL.out] at this
        exact this
      case measure => simp only [intOf]; omega
    · have hik : i = k := by omega
      have hvb : Vb = [] := by
        have h1 := H1.out; rw [hva.out] at h1; simp at h1; have := hla.out
        exact List.eq_nil_of_length_eq_zero (by omega)
      have hvd : Vd = [] := by
        have h1 := H2.out; rw [hvc.out] at h1; simp at h1; have := hlc.out
        exact List.eq_nil_of_length_eq_zero (by omega)
      have HF := Lib.hid (show Own wr base 3 1 (some ⟨g, 0, none⟩) n c ((U ++ (V2 ++ (M ++ (V1 ++ Z)))).map nv) from by
        have h := ho.out
        rw [hvb, hvd, List.append_nil, List.append_nil] at h
        have h1 := hva.out; have h2 := hvc.out
        rw [hvb, List.append_nil] at h1
        rw [hvd, List.append_nil] at h2
        rw [h1, h2]; exact h)
      clear hik hvb hvd
      go_wp2
      go_end0
      exact ⟨rfl, HF.out, hg.out⟩
def RotPost (g base n c : Nat) (L : List Nat) (w : World) (e : Ending) (w' : World) : Prop := e = .returned (.tuple #[]) ∧ Own w' base 3 1 (some ⟨g, 0, none⟩) n c (L.map nv) ∧ w.grownBy w' (some g)
set_option maxHeartbeats 8000000 in
theorem rotate_any {w : World} {base g n c a m b : Nat} {U X Y Z : List Nat} (ho : Own w base 3 1 (some ⟨g, 0, none⟩) n c ((U ++ (X ++ (Y ++ Z))).map nv)) (hn : n ≤ 1000000) (f : Value) (ha : a = U.length) (hm : m = a + X.length) (hb : b = m + Y.length) (hx : 0 < X.length) (hy : 0 < Y.length) :
    Calls Try.prog 52 #[.slice (some ⟨g, 0, none⟩) n c, .int .i64 a, .int .i64 m, .int .i64 b, f] w (RotPost g base n c (U ++ (Y ++ (X ++ Z))) w) := by
  have hlen : (U ++ (X ++ (Y ++ Z))).length = n := by have := ho.len; simpa using this
  simp only [List.length_append] at hlen
  have HO := Lib.hid ho; have HA := Lib.hid ha; have HMM := Lib.hid hm; have HBB := Lib.hid hb; have HXL := Lib.hid hx; have HYL := Lib.hid hy
  have hbn : b ≤ n := by omega
  have ham : a < m := by omega
  have hmb : m < b := by omega
  have ex : (m : Int) - (a : Int) = (X.length : Int) := by omega
  have ey : (b : Int) - (m : Int) = (Y.length : Int) := by omega
  clear ho hlen ha hm hb hx hy
  go_enter Try.func52, Try.ntmps52
  go_wp2_with fail
  go_loopw [10, 11] (fun v u wr => ∃ (i j : Nat) (P X' Y' S : List Nat), v = .int .i64 i ∧ u = .int .i64 j ∧ 0 < i ∧ 0 < j ∧ i ≤ m ∧ m + j ≤ n ∧ Hid (X'.length = i) ∧ Hid (Y'.length = j) ∧ Hid (P.length + i = m) ∧
    Hid (P ++ (Y' ++ (X' ++ S)) = U ++ (Y ++ (X ++ Z))) ∧ Hid (Own wr base 3 1 (some ⟨g, 0, none⟩) n c ((P ++ (X' ++ (Y' ++ S))).map nv)) ∧ Hid (w.grownBy wr (some g))) (fun v u _ => (intOf v).toNat + (intOf u).toNat)
  case atStart => exact ⟨X.length, Y.length, U, X, Y, Z, by first | rfl | rw [ex], by first | rfl | rw [ey], HXL.out, HYL.out, by have := HMM.out; omega, by have := HBB.out; omega, Lib.hid rfl, Lib.hid rfl, Lib.hid (by have := HMM.out; have := HA.out; omega), Lib.hid rfl, HO, Lib.hid (gb_nw (Nw.refl _))⟩
  case round =>
    obtain ⟨i, j, P, X', Y', S, rfl, rfl, hi0, hj0, him, hjn, hx', hy', hp, ht, ho, hg⟩ := hrel
    have e1 : (m : Int) - (i : Int) = ((m - i : Nat) : Int) := by omega
    clear ex ey
    rcases Nat.lt_trichotomy i j with hlt | heq | hgt
    · -- the first row is shorter: it goes to the end
      have h1 : ((i : Int) != (j : Int)) = true := by rw [bne_iff_ne]; omega
      have h2 : ¬ (j : Int) < (i : Int) := by omega
      obtain ⟨Y1, Y2, hyy, hy2⟩ : ∃ Y1 Y2, Y' = Y1 ++ Y2 ∧ Y2.length = i := ⟨Y'.take (j - i), Y'.drop (j - i), (List.take_append_drop _ _).symm, by rw [List.length_drop, hy'.out]; omega⟩
      have hy1 : Y1.length = j - i := by have := hy'.out; rw [hyy, List.length_append] at this; omega
      have e2 : (m : Int) + (j : Int) - (i : Int) = ((m + j - i : Nat) : Int) := by omega
      have e3 : (j : Int) - (i : Int) = ((j - i : Nat) : Int) := by omega
      have o1 : Own wr base 3 1 (some ⟨g, 0, none⟩) n c ((P ++ (X' ++ (Y1 ++ (Y2 ++ S)))).map nv) := by have := ho.out; rw [hyy] at this; simpa using this
      have HS := Lib.hid (swapr_any (a := m - i) (b := m + j - i) o1 hx'.out hy2 hn f (by have := hp.out; omega) (by have := hp.out; omega))
      have HT := Lib.hid (show P ++ (Y1 ++ (Y2 ++ (X' ++ S))) = U ++ (Y ++ (X ++ Z)) from by have := ht.out; rw [hyy] at this; simpa using this)
      have HY1 := Lib.hid hy1; have HY2 := Lib.hid hy2
      unfold SwapPost at HS
      clear hyy hy1 hy2 o1 ht hy'
      go_wp2_with ((with_reducible refine HS.out.mono ?_); rintro e w2 ⟨rfl, o2, g2⟩; have O2 := Lib.hid o2; have G2 := Lib.hid g2; clear o2 g2)
      go_roundw
      case rel => exact ⟨i, j - i, P, Y2, Y1, X' ++ S, rfl, by first | rfl | rw [e3], hi0, by omega, him, by omega, HY2, HY1, hp, HT, O2, Lib.hid (gb_trans hg.out G2.out)⟩
      case measure => simp only [intOf]; omega
    · subst heq
      have h1 : ((i : Int) != (i : Int)) = false := by simp
      have HS := Lib.hid (swapr_any (M := []) (a := m - i) (b := m) ho.out hx'.out hy'.out hn f (by have := hp.out; omega) (by have := hp.out; simp; omega))
      unfold SwapPost at HS
      go_wp2_with ((with_reducible refine HS.out.mono ?_); rintro e w2 ⟨rfl, o2, g2⟩; have O2 := Lib.hid o2; have G2 := Lib.hid g2; clear o2 g2)
      go_end0
      refine ⟨rfl, ?_, gb_trans hg.out G2.out⟩
      have := O2.out
      rw [List.nil_append, ht.out] at this
      exact this
    · have h1 : ((i : Int) != (j : Int)) = true := by rw [bne_iff_ne]; omega
      have h2 : (j : Int) < (i : Int) := by omega
      obtain ⟨X1, X2, hxx, hx1⟩ : ∃ X1 X2, X' = X1 ++ X2 ∧ X1.length = j := ⟨X'.take j, X'.drop j, (List.take_append_drop _ _).symm, by rw [List.length_take, hx'.out]; omega⟩
      have hx2 : X2.length = i - j := by have := hx'.out; rw [hxx, List.length_append] at this; omega
      have e3 : (i : Int) - (j : Int) = ((i - j : Nat) : Int) := by omega
      have o1 : Own wr base 3 1 (some ⟨g, 0, none⟩) n c ((P ++ (X1 ++ (X2 ++ (Y' ++ S)))).map nv) := by have := ho.out; rw [hxx] at this; simpa using this
      have HS := Lib.hid (swapr_any (a := m - i) (b := m) o1 hx1 hy'.out hn f (by have := hp.out; omega) (by have := hp.out; omega))
      have HT := Lib.hid (show (P ++ Y') ++ (X1 ++ (X2 ++ S)) = U ++ (Y ++ (X ++ Z)) from by have := ht.out; rw [hxx] at this; simpa using this)
      have HX1 := Lib.hid hx1; have HX2 := Lib.hid hx2
      unfold SwapPost at HS
      have HPL := Lib.hid (show (P ++ Y').length + (i - j) = m from by have := hp.out; rw [List.length_append, hy'.out]; omega)
      clear hxx hx1 hx2 o1 ht hx'
      go_wp2_with ((with_reducible refine HS.out.mono ?_); rintro e w2 ⟨rfl, o2, g2⟩; have O2 := Lib.hid o2; have G2 := Lib.hid g2; clear o2 g2)
      go_roundw
      case rel => exact ⟨i - j, j, P ++ Y', X2, X1, S, by first | rfl | rw [e3], rfl, by omega, hj0, by omega, hjn, HX2, HX1, HPL, HT, Lib.hid (by have := O2.out; simpa using this), Lib.hid (gb_trans hg.out G2.out)⟩
      case measure => simp only [intOf]; omega
end Go.Proofs.Ytobifmndpkjlmaa

