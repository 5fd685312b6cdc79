/- What the reference's Right, Holder and Set return. -/
import Derived.Test.YtfpllllglpjipaaR1
namespace Go.Proofs.Ytfpllllglpjipaa
open Go.RowKit Go.BW

set_option maxHeartbeats 4000000 in
theorem rright_any (x : Wh) (w : World) : Calls Try.prog 30 #[wv x] w (Ret (.bool (mayB x)) w) := by
  obtain ⟨xt, xg, xs⟩ := x
  unfold wv
  obtain ⟨r, hr⟩ : ∃ r, mayB ⟨xt, xg, xs⟩ = r := ⟨_, rfl⟩
  rw [hr]
  simp only [mayB] at hr
  rcases (show xt = 0 ∨ xt = 1 ∨ xt = 2 ∨ (xt ≠ 0 ∧ xt ≠ 1 ∧ xt ≠ 2) from by omega) with rfl | rfl | rfl | ⟨h0, h1, h2⟩
  · have hr2 : r = decide (xg = 0 ∧ xs = 0) := by rw [← hr]; simp [w0]
    clear hr
    rcases (show (r = true ∧ xg = 0 ∧ xs = 0) ∨ (r = false ∧ xg = 0 ∧ xs ≠ 0) ∨ (r = false ∧ xg ≠ 0) from by rw [hr2]; simp; omega) with ⟨rfl, rfl, rfl⟩ | ⟨rfl, rfl, h⟩ | ⟨rfl, h⟩
    · clear hr2
      go_enter Try.func30, Try.ntmps30
      go_wp2
      go_ret
      exact ⟨rfl, World.grownBy_alloc w _ none⟩
    · clear hr2
      have b : (xs == 0) = false := by simpa using h
      clear h
      go_enter Try.func30, Try.ntmps30
      go_wp2
      go_ret
      exact ⟨rfl, World.grownBy_alloc w _ none⟩
    · clear hr2
      have b : (xg == 0) = false := by simpa using h
      clear h
      go_enter Try.func30, Try.ntmps30
      go_wp2
      go_ret
      exact ⟨rfl, World.grownBy_alloc w _ none⟩
  · have hr2 : r = decide (0 ≤ xs ∧ 0 ≤ xg ∧ xs ≤ 7 ∧ xg ≤ 255) := by rw [← hr]; simp
    clear hr
    rcases (show (r = false ∧ ¬ 0 ≤ xs) ∨ (r = false ∧ 0 ≤ xs ∧ ¬ xs ≤ 7) ∨ (r = false ∧ 0 ≤ xs ∧ xs ≤ 7 ∧ ¬ 0 ≤ xg) ∨ (r = false ∧ 0 ≤ xs ∧ xs ≤ 7 ∧ 0 ≤ xg ∧ ¬ xg ≤ 255) ∨ (r = true ∧ 0 ≤ xs ∧ xs ≤ 7 ∧ 0 ≤ xg ∧ xg ≤ 255) from by rw [hr2]; simp only [decide_eq_true_eq, decide_eq_false_iff_not]; omega) with ⟨rfl, a⟩ | ⟨rfl, a1, a2⟩ | ⟨rfl, a1, a2, a3⟩ | ⟨rfl, a1, a2, a3, a4⟩ | ⟨rfl, a1, a2, a3, a4⟩
    all_goals
      clear hr2
      go_enter Try.func30, Try.ntmps30
      go_wp2
      go_ret
      exact ⟨rfl, World.grownBy_alloc w _ none⟩
  · have hr2 : r = decide (0 ≤ xs ∧ 0 ≤ xg ∧ xs ≤ 87 ∧ xg ≤ 255) := by rw [← hr]; simp
    clear hr
    rcases (show (r = false ∧ ¬ 0 ≤ xs) ∨ (r = false ∧ 0 ≤ xs ∧ ¬ xs ≤ 87) ∨ (r = false ∧ 0 ≤ xs ∧ xs ≤ 87 ∧ ¬ 0 ≤ xg) ∨ (r = false ∧ 0 ≤ xs ∧ xs ≤ 87 ∧ 0 ≤ xg ∧ ¬ xg ≤ 255) ∨ (r = true ∧ 0 ≤ xs ∧ xs ≤ 87 ∧ 0 ≤ xg ∧ xg ≤ 255) from by rw [hr2]; simp only [decide_eq_true_eq, decide_eq_false_iff_not]; omega) with ⟨rfl, a⟩ | ⟨rfl, a1, a2⟩ | ⟨rfl, a1, a2, a3⟩ | ⟨rfl, a1, a2, a3, a4⟩ | ⟨rfl, a1, a2, a3, a4⟩
    all_goals
      clear hr2
      go_enter Try.func30, Try.ntmps30
      go_wp2
      go_ret
      exact ⟨rfl, World.grownBy_alloc w _ none⟩
  · have hr2 : r = false := by rw [← hr]; simp [h0, h1, h2]
    subst hr2
    have b0 : (xt == 0) = false := by simpa using h0
    have b1 : (xt == 1) = false := by simpa using h1
    have b2 : (xt == 2) = false := by simpa using h2
    clear hr h0 h1 h2
    go_enter Try.func30, Try.ntmps30
    go_wp2
    go_ret
    exact ⟨rfl, World.grownBy_alloc w _ none⟩
set_option maxHeartbeats 4000000 in
theorem rholder_any {w : World} {g : Nat} {ps : List Wh} (h : RR w g ps) (x : Wh) (hd : dupN ps ps.length = false) : Calls Try.prog 21 #[pv g, wv x] w (Ret (.tuple #[.int .i64 ((look (heldOf ps) x).getD 0), .bool (look (heldOf ps) x).isSome]) w) := by
  obtain ⟨l, c, h1, h2, h3⟩ := h
  obtain ⟨N, hN⟩ : ∃ N, ps.length = N := ⟨_, rfl⟩
  have HD := Lib.hid ((dup_iff _ _).1 hd)
  have h96 := h3.2
  rw [hN] at h96
  obtain ⟨w1, hw1⟩ : ∃ w1, w1 = w.alloc (.cells #[.int .i64 x.t, .int .i64 x.g, .int .i64 x.s] 31) := ⟨_, rfl⟩
  have n1 : Nw w w1 := by rw [hw1]; exact World.grownBy_alloc w _ none
  have OB := Lib.hid (show Obj1 w1 w.heap.size 31 #[.int .i64 x.t, .int .i64 x.g, .int .i64 x.s] from by rw [hw1]; exact Obj1.new w _ _)
  have hc : ∀ w', Nw w1 w' → w'.cell? ⟨g, 0, none⟩ = some (.slice (some ⟨l, 0, none⟩) N c) := fun w' k => by rw [((h1.nw n1).nw k).cell 0, hN]; rfl
  have HC := Lib.hid hc
  have HRW := Lib.hid (h2.nw n1)
  rw [hN] at HRW
  have N1 := Lib.hid n1
  have HN := Lib.hid hN; clear hN h1 h2 h3 hc n1
  have HW := Lib.hid hw1; clear hw1
  obtain ⟨xt, xg, xs⟩ := x
  unfold pv wv
  go_enter Try.func21, Try.ntmps21
  go_wp2_with fail
  rw [← HW.out]
  generalize w.heap.size = vx at OB ⊢
  clear HW
  go_loopw [6] (fun i wr => ∃ k : Nat, k ≤ N ∧ i = .int .i64 k ∧ Hid (∀ j, j < k → ps[j]? = some ⟨xt, xg, xs⟩ → xt = 0) ∧ Nw w1 wr) (fun i _ => N - (intOf i).toNat)
  case atStart => exact ⟨0, Nat.zero_le _, rfl, Lib.hid (fun j h => by omega), Nw.refl _⟩
  case round =>
    obtain ⟨k, hk, rfl, HNO, hnw⟩ := hrel
    have HNW := Lib.hid hnw; clear hnw
    have c0 := HC.out wr HNW.out
    by_cases hlt : k < N
    · obtain ⟨y, hy⟩ : ∃ y, ps[k]? = some y := ⟨ps[k]'(by rw [HN.out]; exact hlt), List.getElem?_eq_getElem _⟩
      have hw := fun (w' : World) (k : Nw wr w') => (HRW.out.nw (gb_trans HNW.out k)).atL wc_len (by omega) hy
      have HY := Lib.hid hy; clear hy
      obtain ⟨yt, yg, ys⟩ := y
      have g0 : ∀ w', Nw wr w' → w'.cell? ⟨l, k * 3, none⟩ = some (.int .i64 yt) := fun w' n => hw w' n 0 _ rfl
      have g1 : ∀ w', Nw wr w' → w'.cell? ⟨l, k * 3 + 1, none⟩ = some (.int .i64 yg) := fun w' n => hw w' n 1 _ rfl
      have g2 : ∀ w', Nw wr w' → w'.cell? ⟨l, k * 3 + 2, none⟩ = some (.int .i64 ys) := fun w' n => hw w' n 2 _ rfl
      have f0 : ∀ w', Nw wr w' → w'.cell? ⟨vx, 0, none⟩ = some (.int .i64 xt) := fun w' n => (OB.out.nw (gb_trans HNW.out n)).cell 0
      have f1 : ∀ w', Nw wr w' → w'.cell? ⟨vx, 1, none⟩ = some (.int .i64 xg) := fun w' n => (OB.out.nw (gb_trans HNW.out n)).cell 1
      have f2 : ∀ w', Nw wr w' → w'.cell? ⟨vx, 2, none⟩ = some (.int .i64 xs) := fun w' n => (OB.out.nw (gb_trans HNW.out n)).cell 2
      have k0 : ∀ w', Nw wr w' → w'.cell? ⟨g, 0, none⟩ = some (.slice (some ⟨l, 0, none⟩) N c) := fun w' n => HC.out w' (gb_trans HNW.out n)
      clear hw
      by_cases hxy : (⟨yt, yg, ys⟩ : Wh) = ⟨xt, xg, xs⟩
      · injection hxy with e1 e2 e3
        subst e1; subst e2; subst e3
        by_cases h0 : yt = 0
        · subst h0
          go_wp2_with fail
          refine wp_region_held (S := (fun w' => Nw wr w')) (by kernel_rfl) ?_
          change wpAnyH _ _ _ _ _ _ _ _ (World.drew wr)
          refine held_seg' (l := [0, 1, 2, 3, 4, 5, 6, 7, 8, 9, 10, 11, 12, 13]) (fuel := 0) rfl (by kernel_rfl) (by kernel_rfl) (by simp only [List.filterMap_cons, List.filterMap_nil, List.getElem?_toArray, List.getElem?_cons_succ, List.getElem?_cons_zero]; rfl) (fun _ _ d _ _ h => by cases d <;> exact h) (gb_drew (Nw.refl wr)) ?_
          iterate 8 (refine wpYield_step rfl (fun K hK => ?_)
                     apply Exists.intro
                     refine ⟨fun w' hw' => ?_, ?_⟩
                     · (go_simp; try with_reducible rfl)
                     go_simp
                     refine hK _ ?_
                     clear hK K)
          refine wpYield_eq_wh rfl false _ _ _ rfl rfl ⟨0, yg, ys⟩ ⟨0, yg, ys⟩ rfl rfl true (by simp) ?_
          iterate 5 (refine wpYield_step rfl (fun K hK => ?_)
                     apply Exists.intro
                     refine ⟨fun w' hw' => ?_, ?_⟩
                     · (go_simp; try with_reducible rfl)
                     go_simp
                     refine hK _ ?_
                     clear hK K)
          refine wpYield_nil ?_
          refine wpAnyH_done (by kernel_rfl) ?_ _
          go_wp2
          exact ⟨⟨k + 1, hlt, by go_num, Lib.hid (fun _ _ _ => by first | rfl | trivial), gb_trans HNW.out (gb_drew (Nw.refl wr))⟩, by simp [intOf]; omega⟩
        · have b0 : (yt != 0) = true := by simpa using h0
          have HH := Lib.hid (show look (heldOf ps) ⟨yt, yg, ys⟩ = some (k : Int) from hold_at HD.out HY.out h0)
          go_wp2_with fail
          refine wp_region_held (S := (fun w' => Nw wr w')) (by kernel_rfl) ?_
          change wpAnyH _ _ _ _ _ _ _ _ (World.drew wr)
          refine held_seg' (l := [0, 1, 2, 3, 4, 5, 6, 7, 8, 9, 10, 11, 12, 13]) (fuel := 0) rfl (by kernel_rfl) (by kernel_rfl) (by simp only [List.filterMap_cons, List.filterMap_nil, List.getElem?_toArray, List.getElem?_cons_succ, List.getElem?_cons_zero]; rfl) (fun _ _ d _ _ h => by cases d <;> exact h) (gb_drew (Nw.refl wr)) ?_
          iterate 8 (refine wpYield_step rfl (fun K hK => ?_)
                     apply Exists.intro
                     refine ⟨fun w' hw' => ?_, ?_⟩
                     · (go_simp; try with_reducible rfl)
                     go_simp
                     refine hK _ ?_
                     clear hK K)
          refine wpYield_eq_wh rfl false _ _ _ rfl rfl ⟨yt, yg, ys⟩ ⟨yt, yg, ys⟩ rfl rfl true (by simp) ?_
          iterate 5 (refine wpYield_step rfl (fun K hK => ?_)
                     apply Exists.intro
                     refine ⟨fun w' hw' => ?_, ?_⟩
                     · (go_simp; try with_reducible rfl)
                     go_simp
                     refine hK _ ?_
                     clear hK K)
          refine wpYield_nil ?_
          refine wpAnyH_done (by kernel_rfl) ?_ _
          go_wp2
          go_ret2
          exact ⟨by rw [HH.out]; rfl, gb_trans N1.out (gb_trans HNW.out (gb_drew (Nw.refl wr)))⟩
      · have HXY := Lib.hid hxy
        clear hxy
        go_wp2_with fail
        refine wp_region_held (S := (fun w' => Nw wr w')) (by kernel_rfl) ?_
        change wpAnyH _ _ _ _ _ _ _ _ (World.drew wr)
        refine held_seg' (l := [0, 1, 2, 3, 4, 5, 6, 7, 8, 9, 10, 11, 12, 13]) (fuel := 0) rfl (by kernel_rfl) (by kernel_rfl) (by simp only [List.filterMap_cons, List.filterMap_nil, List.getElem?_toArray, List.getElem?_cons_succ, List.getElem?_cons_zero]; rfl) (fun _ _ d _ _ h => by cases d <;> exact h) (gb_drew (Nw.refl wr)) ?_
        iterate 8 (refine wpYield_step rfl (fun K hK => ?_)
                   apply Exists.intro
                   refine ⟨fun w' hw' => ?_, ?_⟩
                   · (go_simp; try with_reducible rfl)
                   go_simp
                   refine hK _ ?_
                   clear hK K)
        refine wpYield_eq_wh rfl false _ _ _ rfl rfl ⟨yt, yg, ys⟩ ⟨xt, xg, xs⟩ rfl rfl false (by have := HXY.out; simpa using this) ?_
        (refine wpYield_step rfl (fun K hK => ?_)
         apply Exists.intro
         refine ⟨fun w' hw' => ?_, ?_⟩
         · (go_simp; try with_reducible rfl)
         go_simp
         refine hK _ ?_
         clear hK K)
        iterate 3 (refine wpYield_skipK rfl (fun K hK => ?_); go_simp; refine hK _ ?_; clear hK K)
        (refine wpYield_step rfl (fun K hK => ?_)
         apply Exists.intro
         refine ⟨fun w' hw' => ?_, ?_⟩
         · (go_simp; try with_reducible rfl)
         go_simp
         refine hK _ ?_
         clear hK K)
        refine wpYield_nil ?_
        refine wpAnyH_done (by kernel_rfl) ?_ _
        go_wp2
        refine ⟨⟨k + 1, hlt, by go_num, Lib.hid (fun j hj e => ?_), gb_trans HNW.out (gb_drew (Nw.refl wr))⟩, by simp [intOf]; omega⟩
        rcases Nat.lt_or_ge j k with h1 | h1
        · exact HNO.out j h1 e
        · have : j = k := by omega
          subst this
          rw [HY.out] at e
          injection e with e
          exact absurd e HXY.out
    · have hk' : k = N := by omega
      subst hk'
      have HL := Lib.hid (show look (heldOf ps) ⟨xt, xg, xs⟩ = none from by
        cases hl : look (heldOf ps) ⟨xt, xg, xs⟩ with
        | none => rfl
        | some v =>
          obtain ⟨i, hi, e, _, h0⟩ := look_val ps _ v _ hl
          exact absurd (HNO.out i (by rw [← HN.out]; exact hi) e) h0)
      go_wp2
      go_ret2
      exact ⟨by rw [HL.out]; rfl, gb_trans N1.out HNW.out⟩
def RSetPost (ps : List Wh) (l : List Ch) (g : Nat) (w : World) (e : Ending) (w' : World) : Prop :=
  e = .returned (.int .i64 (setF ps l).1) ∧ RR w' g (setF ps l).2 ∧ Chg w w' [g]
theorem RR.same {w w' : World} {g : Nat} {ps : List Wh} (h : RR w g ps) (n : Nw w w') {l : List Ch} (v : Int) (hf : setF ps l = (v, ps)) : RSetPost ps l g w (.returned (.int .i64 v)) w' := by
  unfold RSetPost
  rw [hf]
  exact ⟨rfl, h.nw n, Chg.of_nw n⟩
def RSetRel (w : World) (l1 N c1 : Nat) (ps : List Wh) (l : List Ch) (k : Nat) (wr : World) : Prop :=
  (l.take k).all (fun x => mayB x.to) = true ∧ Own wr 0 31 3 (some ⟨l1, 0, none⟩) N c1 (fl wc (applyN ps l k)) ∧ Nw w wr
set_option maxRecDepth 100000 in
set_option maxHeartbeats 8000000 in
theorem rset_any {w : World} {g : Nat} {ps : List Wh} (h : RR w g ps) {B n d : Nat} {L : Option Addr} {l : List Ch} (hr : Rd w B 4 L n (fl cc l)) (hB : B ≤ w.heap.size) (hn : n ≤ 1000000) :
    Calls Try.prog 18 #[pv g, .slice L n d] w (RSetPost ps l g w) := by
  have HV := Lib.hid h
  obtain ⟨la, c, h1, h2, h3⟩ := h
  obtain ⟨N, hN⟩ : ∃ N, ps.length = N := ⟨_, rfl⟩
  have H96 := Lib.hid h3
  have h96 := h3.2
  have h91 := h3.1
  rw [hN] at h96 h91
  have hc : ∀ w', Nw w w' → w'.cell? ⟨g, 0, none⟩ = some (.slice (some ⟨la, 0, none⟩) N c) := fun w' k => by rw [(h1.nw k).cell 0, hN]; rfl
  have HC := Lib.hid hc
  have HG := Lib.hid h1
  have HRW := Lib.hid h2
  rw [hN] at HRW HG
  have HR := Lib.hid hr
  have HLL := Lib.hid (hr.lenL cc_len (by omega))
  have HN := Lib.hid hN
  clear h1 h2 h3 hc hr hN
  unfold pv
  go_enter Try.func18, Try.ntmps18
  go_wp2_with fail
  go_loopw [5] (fun i wr => ∃ k : Nat, k ≤ n ∧ i = .int .i64 k ∧ Hid ((l.take k).all (fun x => inB x.b N) = true) ∧ Nw w wr) (fun i _ => n - (intOf i).toNat)
  case atStart => exact ⟨0, Nat.zero_le _, rfl, Lib.hid rfl, Nw.refl _⟩
  case round =>
    obtain ⟨k, hk, rfl, HA, hnw⟩ := hrel
    have HNW := Lib.hid hnw; clear hnw
    by_cases hlt : k < n
    · obtain ⟨_, b5, off, x, rfl, _, hx, _⟩ := (HR.out.nw HNW.out hB).atL cc_len (by omega) hlt
      have e0 : ∀ w', Nw wr w' → w'.cell? ⟨b5, off + k * 4, none⟩ = some (.int .i64 x.b) := fun w' n' => by
        obtain ⟨_, b6, off6, x6, e6, _, hx6, hc6⟩ := (HR.out.nw (gb_trans HNW.out n') hB).atL cc_len (by omega) hlt
        injection e6 with e6; injection e6 with e7 e8; subst e7; subst e8
        rw [hx] at hx6; injection hx6 with hx6; subst hx6
        exact hc6 0 _ rfl
      have k0 : ∀ w', Nw wr w' → w'.cell? ⟨g, 0, none⟩ = some (.slice (some ⟨la, 0, none⟩) N c) := fun w' n' => HC.out w' (gb_trans HNW.out n')
      have HST := Lib.hid (show (l.take (k + 1)).all (fun x => inB x.b N) = inB x.b N from by
        obtain ⟨hkl, e⟩ := List.getElem?_eq_some_iff.1 hx
        rw [List.take_succ_eq_append_getElem hkl, List.all_append, HA.out, e]
        simp)
      obtain ⟨xb, xto⟩ := x
      simp only at e0 HST
      clear hx
      have HBAD := Lib.hid (fun (h : inB xb N = false) => show setF ps l = (3, ps) from by
        unfold setF
        rw [if_pos (by unfold allIn; rw [HN.out]; exact all_take_false (HST.out.trans h))])
      rcases (show xb < 0 ∨ (¬ xb < 0 ∧ (N : Int) ≤ xb) ∨ (0 ≤ xb ∧ xb < N) from by omega) with h0 | ⟨h0, h1⟩ | ⟨h0, h1⟩
      · have HB2 := Lib.hid (HBAD.out (by unfold inB; simp; omega))
        have b0 : decide (xb < 0) = true := by simpa using h0
        go_wp2_with fail
        refine wp_region_held (S := (fun w' => Nw wr w')) (by kernel_rfl) ?_
        change wpAnyH _ _ _ _ _ _ _ _ (World.drew wr)
        refine held_seg' (l := [0, 1, 2, 3, 4, 5, 6, 7, 8, 9, 10, 11, 12, 13, 14, 15, 16, 17, 18]) (fuel := 0) rfl (by kernel_rfl) (by kernel_rfl) (by simp only [List.filterMap_cons, List.filterMap_nil, List.getElem?_toArray, List.getElem?_cons_succ, List.getElem?_cons_zero]; rfl) (fun _ _ d _ _ h => by cases d <;> exact h) (gb_drew (Nw.refl wr)) ?_
        iterate 7 (refine wpYield_step rfl (fun K hK => ?_)
                   apply Exists.intro
                   refine ⟨fun w' hw' => ?_, ?_⟩
                   · (go_simp; try with_reducible rfl)
                   go_simp
                   refine hK _ ?_
                   clear hK K)
        iterate 11 (refine wpYield_skipK rfl (fun K hK => ?_); go_simp; refine hK _ ?_; clear hK K)
        (refine wpYield_step rfl (fun K hK => ?_)
         apply Exists.intro
         refine ⟨fun w' hw' => ?_, ?_⟩
         · (go_simp; try with_reducible rfl)
         go_simp
         refine hK _ ?_
         clear hK K)
        refine wpYield_nil ?_
        refine wpAnyH_done (by kernel_rfl) ?_ _
        go_wp2
        go_ret
        exact RR.same HV.out (gb_trans HNW.out (gb_drew (Nw.refl wr))) 3 HB2.out
      · have HB2 := Lib.hid (HBAD.out (by unfold inB; simp; omega))
        have b0 : decide (xb < 0) = false := by simpa using h0
        have b1 : decide ((N : Int) ≤ xb) = true := by simpa using h1
        go_wp2_with fail
        refine wp_region_held (S := (fun w' => Nw wr w')) (by kernel_rfl) ?_
        change wpAnyH _ _ _ _ _ _ _ _ (World.drew wr)
        refine held_seg' (l := [0, 1, 2, 3, 4, 5, 6, 7, 8, 9, 10, 11, 12, 13, 14, 15, 16, 17, 18]) (fuel := 0) rfl (by kernel_rfl) (by kernel_rfl) (by simp only [List.filterMap_cons, List.filterMap_nil, List.getElem?_toArray, List.getElem?_cons_succ, List.getElem?_cons_zero]; rfl) (fun _ _ d _ _ h => by cases d <;> exact h) (gb_drew (Nw.refl wr)) ?_
        iterate 19 (refine wpYield_step rfl (fun K hK => ?_)
                    apply Exists.intro
                    refine ⟨fun w' hw' => ?_, ?_⟩
                    · (go_simp; try with_reducible rfl)
                    go_simp
                    refine hK _ ?_
                    clear hK K)
        refine wpYield_nil ?_
        refine wpAnyH_done (by kernel_rfl) ?_ _
        go_wp2
        go_ret
        exact RR.same HV.out (gb_trans HNW.out (gb_drew (Nw.refl wr))) 3 HB2.out
      · have HG2 := Lib.hid (show (l.take (k + 1)).all (fun x => inB x.b N) = true from by rw [HST.out]; unfold inB; simp; omega)
        have b0 : decide (xb < 0) = false := by simp; omega
        have b1 : decide ((N : Int) ≤ xb) = false := by simp; omega
        go_wp2_with fail
        refine wp_region_held (S := (fun w' => Nw wr w')) (by kernel_rfl) ?_
        change wpAnyH _ _ _ _ _ _ _ _ (World.drew wr)
        refine held_seg' (l := [0, 1, 2, 3, 4, 5, 6, 7, 8, 9, 10, 11, 12, 13, 14, 15, 16, 17, 18]) (fuel := 0) rfl (by kernel_rfl) (by kernel_rfl) (by simp only [List.filterMap_cons, List.filterMap_nil, List.getElem?_toArray, List.getElem?_cons_succ, List.getElem?_cons_zero]; rfl) (fun _ _ d _ _ h => by cases d <;> exact h) (gb_drew (Nw.refl wr)) ?_
        iterate 19 (refine wpYield_step rfl (fun K hK => ?_)
                    apply Exists.intro
                    refine ⟨fun w' hw' => ?_, ?_⟩
                    · (go_simp; try with_reducible rfl)
                    go_simp
                    refine hK _ ?_
                    clear hK K)
        refine wpYield_nil ?_
        refine wpAnyH_done (by kernel_rfl) ?_ _
        go_wp2
        exact ⟨⟨k + 1, hlt, by go_num, Lib.hid HG2.out, gb_trans HNW.out (gb_drew (Nw.refl wr))⟩, by simp [intOf]; omega⟩
    · have hk' : k = n := by omega
      subst hk'
      have HA2 := Lib.hid (show allIn ps.length l = true from by
        unfold allIn
        rw [HN.out]
        have := HA.out
        rwa [List.take_of_length_le (by rw [HLL.out]; exact Nat.le_refl _)] at this)
      have k0 := HC.out (wr.alloc (.cells #[] 31)) (gb_alloc HNW.out _)
      clear HA
      have HRD := Lib.hid (HRW.out.nw HNW.out).rd
      go_wp2_with (at_builtin; refine wpList_app_lit T28 _ _ rfl rfl w.heap.size rfl rfl HRD.out (Nat.le_refl _) (fl_one_cells _) (by unfold maxLen; omega) HNW.out.size ?_; intro A' c1 w2 o2 n2; have O2 := Lib.hid (o2.more (Nat.zero_le _)); have HGE := Lib.hid o2; have N2 := Lib.hid (gb_trans HNW.out n2); clear o2 n2)
      obtain ⟨l1, rfl, hl1⟩ := HGE.out.some_ (by omega)
      have HL1 := Lib.hid hl1
      clear hl1 HGE k0
      go_loopw [7] (fun i wr => ∃ j : Nat, j ≤ k ∧ i = .int .i64 j ∧ RSetRel w l1 N c1 ps l j wr) (fun i _ => k - (intOf i).toNat)
      case atStart => exact ⟨0, Nat.zero_le _, rfl, rfl, O2.out, N2.out⟩
      case round =>
        obtain ⟨j, hj, rfl, hm, ho, hnw⟩ := hrel
        have HM := Lib.hid hm; have HO := Lib.hid ho; have HNW3 := Lib.hid hnw; clear hm ho hnw
        by_cases hlj : j < k
        · obtain ⟨_, b5, off, x, rfl, _, hx, _⟩ := (HR.out.nw HNW3.out hB).atL cc_len (by omega) hlj
          have hcell : ∀ w', Nw wr w' → ∀ i u, (cc x)[i]? = some u → w'.cell? ⟨b5, off + j * 4 + i, none⟩ = some u := fun w' n' => by
            obtain ⟨_, b6, off6, x6, e6, _, hx6, hc6⟩ := (HR.out.nw (gb_trans HNW3.out n') hB).atL cc_len (by omega) hlj
            injection e6 with e6; injection e6 with e7 e8; subst e7; subst e8
            rw [hx] at hx6; injection hx6 with hx6; subst hx6
            exact hc6
          have hmem := List.mem_of_getElem? hx
          obtain ⟨xb, xt, xg, xs⟩ := x
          have hib : inB xb N = true := by
            have := HA2.out
            unfold allIn at this
            rw [HN.out] at this
            exact List.all_eq_true.1 this _ hmem
          obtain ⟨m, rfl, hm2⟩ : ∃ m : Nat, xb = m ∧ m < N := ⟨xb.toNat, by unfold inB at hib; simp at hib; omega⟩
          have HAP := Lib.hid (show applyN ps l (j + 1) = (applyN ps l j).set m ⟨xt, xg, xs⟩ from by rw [applyN, hx]; simp)
          have HMS := Lib.hid (show (l.take (j + 1)).all (fun x => mayB x.to) = mayB ⟨xt, xg, xs⟩ from by
            obtain ⟨hkl, e⟩ := List.getElem?_eq_some_iff.1 hx
            rw [List.take_succ_eq_append_getElem hkl, List.all_append, HM.out, e]
            simp)
          have e0 : ∀ w', Nw wr w' → w'.cell? ⟨b5, off + j * 4, none⟩ = some (.int .i64 (m : Int)) := fun w' n' => hcell w' n' 0 _ rfl
          have e1 : ∀ w', Nw wr w' → w'.cell? ⟨b5, off + j * 4 + 1, none⟩ = some (.int .i64 xt) := fun w' n' => hcell w' n' 1 _ rfl
          have e2 : ∀ w', Nw wr w' → w'.cell? ⟨b5, off + j * 4 + 2, none⟩ = some (.int .i64 xg) := fun w' n' => hcell w' n' 2 _ rfl
          have e3 : ∀ w', Nw wr w' → w'.cell? ⟨b5, off + j * 4 + 3, none⟩ = some (.int .i64 xs) := fun w' n' => hcell w' n' 3 _ rfl
          have HMAY := Lib.hid (fun w => rright_any ⟨xt, xg, xs⟩ w)
          obtain ⟨q, hq⟩ : ∃ q, mayB ⟨xt, xg, xs⟩ = q := ⟨_, rfl⟩
          rw [hq] at HMAY HMS
          unfold wv at HMAY
          have HE := Lib.hid (show ∀ w', Nw wr w' → w'.cell? ⟨b5, off + j * 4, none⟩ = some (.int .i64 (m : Int)) ∧ w'.cell? ⟨b5, off + j * 4 + 1, none⟩ = some (.int .i64 xt) ∧ w'.cell? ⟨b5, off + j * 4 + 2, none⟩ = some (.int .i64 xg) ∧ w'.cell? ⟨b5, off + j * 4 + 3, none⟩ = some (.int .i64 xs) from fun w' n' => ⟨e0 w' n', e1 w' n', e2 w' n', e3 w' n'⟩)
          obtain ⟨d0, d1, d2, d3⟩ := HE.out wr (Nw.refl _)
          clear hcell hx hmem hib hq e0 e1 e2 e3
          cases q with
          | false =>
            go_wp2_with (refine (HMAY.out _).mono ?_; rintro e w6 ⟨rfl, n6⟩; have N6 := Lib.hid n6; clear n6)
            go_ret
            refine RR.same HV.out (gb_trans HNW3.out N6.out) 1 ?_
            unfold setF
            rw [if_neg (by rw [HA2.out]; decide), if_pos (all_take_false HMS.out)]
          | true =>
            go_wp2_with (refine (HMAY.out _).mono ?_; rintro e w6 ⟨rfl, n6⟩; have N6 := Lib.hid n6; clear n6)
            clear d0 d1 d2 d3
            have e0 : ∀ w', Nw w6 w' → w'.cell? ⟨b5, off + j * 4, none⟩ = some (.int .i64 (m : Int)) := fun w' n' => (HE.out w' (gb_trans N6.out n')).1
            have e1 : ∀ w', Nw w6 w' → w'.cell? ⟨b5, off + j * 4 + 1, none⟩ = some (.int .i64 xt) := fun w' n' => (HE.out w' (gb_trans N6.out n')).2.1
            have e2 : ∀ w', Nw w6 w' → w'.cell? ⟨b5, off + j * 4 + 2, none⟩ = some (.int .i64 xg) := fun w' n' => (HE.out w' (gb_trans N6.out n')).2.2.1
            have e3 : ∀ w', Nw w6 w' → w'.cell? ⟨b5, off + j * 4 + 3, none⟩ = some (.int .i64 xs) := fun w' n' => (HE.out w' (gb_trans N6.out n')).2.2.2
            refine wp_region_U [12] (fun w' => Nw w6 w') (by kernel_rfl) ?_
            change wpU _ _ _ _ _ _ _ _ _ (World.drew w6)
            refine U_segL (r := [0, 1, 2, 3, 4, 5, 6, 7, 8, 9, 10, 11]) (fuel := 1) rfl (by kernel_rfl) (by kernel_rfl) (by simp only [List.filterMap_cons, List.filterMap_nil, List.getElem?_toArray, List.getElem?_cons_succ, List.getElem?_cons_zero]; rfl) (fun _ _ d _ _ h => by cases d <;> exact h) (gb_drew (Nw.refl w6)) ?_
            iterate 12 (refine wpYield_step rfl (fun K hK => ?_)
                        apply Exists.intro
                        refine ⟨fun w' hw' => ?_, ?_⟩
                        · (go_simp; try with_reducible rfl)
                        go_simp
                        refine hK _ ?_
                        clear hK K)
            refine wpYield_nil ?_
            refine U_eff 12 rfl (by kernel_rfl) rfl (fun K hK => ?_)
            obtain ⟨w7, hrun, o7, g7⟩ := run_store_own (P := Try.prog) (cs := wc ⟨xt, xg, xs⟩) (off := m * 3) 31 (v := wv ⟨xt, xg, xs⟩) rfl i31 (wc_one _) (w := w6.drew) (HO.out.nw (gb_trans N6.out (gb_drew (Nw.refl w6)))) (show m * 3 + 3 ≤ N * 3 by omega)
            refine wp_ran_skip (run_exec_store 31 _ _ rfl rfl rfl hrun) ?_
            refine hK _ _ ⟨until_past (by kernel_rfl), ?_⟩
            clear hK K
            refine U_done (by kernel_rfl) ?_ _
            rw [fl_set wc_len (by rw [applyN_len, HN.out]; exact hm2)] at o7
            have O7 := Lib.hid o7
            have N7 := Lib.hid (show Nw w w7 from nw_of_gb (gb_trans HNW3.out (gb_trans N6.out (gb_drew (Nw.refl w6)))) g7 (by intro x e; injection e with e; have := HL1.out; omega))
            clear o7 g7 hrun e0 e1 e2 e3
            go_wp2
            exact ⟨⟨j + 1, hlj, by go_num, by rw [HMS.out], by rw [HAP.out]; exact O7.out, N7.out⟩, by simp [intOf]; omega⟩
        · have hj' : j = k := by omega
          subst hj'
          obtain ⟨q, hq⟩ : ∃ q, applyN ps l j = q := ⟨_, rfl⟩
          have hql : q.length = N := by rw [← hq, applyN_len, HN.out]
          have hall1 : l.all (fun x => mayB x.to) = true := by have := HM.out; rwa [List.take_of_length_le (by rw [HLL.out]; exact Nat.le_refl _)] at this
          have HF := Lib.hid (show setF ps l = if dupN q N then (9, ps) else (0, q) from by
            unfold setF
            rw [if_neg (by rw [HA2.out]; decide), if_neg (by rw [hall1]; decide), HN.out, HLL.out, hq])
          rw [hq] at HO
          have HQL := Lib.hid hql
          clear hq hql hall1
          obtain ⟨dq, hdq⟩ : ∃ dq, dupN q N = dq := ⟨_, rfl⟩
          have HDQ := Lib.hid hdq; rw [hdq] at HF
          clear hdq
          cases dq with
          | true =>
            go_wp2_with (refine (twice_any HO.out.rd (Nat.le_refl _) (by omega)).mono ?_; rw [HDQ.out]; rintro e w8 ⟨rfl, n8⟩; have N8 := Lib.hid (gb_trans HNW3.out n8); clear n8)
            go_ret
            exact RR.same HV.out N8.out 9 HF.out
          | false =>
            go_wp2_with (first | (refine (twice_any HO.out.rd (Nat.le_refl _) (by omega)).mono ?_; rw [HDQ.out]; rintro e w8 ⟨rfl, n8⟩; have N8 := Lib.hid (gb_trans HNW3.out n8); have O8 := Lib.hid (HO.out.nw n8); have hfz := (HG.out.nw (gb_trans HNW3.out n8)).frozen 0; have hcz := HC.out w8 (gb_trans HNW3.out n8); clear n8))
            go_ret
            have HF2 := Lib.hid (show setF ps l = (0, q) from HF.out.trans rfl)
            have hg := HG.out.nw N8.out
            obtain ⟨cur, ho⟩ := O8.out.obj
            have cg := Chg.set w8 (p := ⟨g, 0, none⟩) (F := [g]) (by simp) (.slice (some ⟨l1, 0, none⟩) N c1)
            unfold RSetPost
            rw [HF2.out]
            refine ⟨rfl, ⟨l1, c1, ?_, ?_, ?_⟩, ?_⟩
            · have := hg.set 0 (.slice (some ⟨l1, 0, none⟩) N c1)
              show Obj1 _ g 47 #[.slice (some ⟨l1, 0, none⟩) q.length c1]
              rw [HQL.out]
              exact this
            · show Own _ 0 31 3 (some ⟨l1, 0, none⟩) q.length c1 (fl wc q)
              rw [HQL.out]
              exact O8.out.eqb (cg.block l1 ho.lt (by simp; exact ho.ne hg (by decide)))
            · show 1 ≤ q.length ∧ q.length ≤ 96
              rw [HQL.out]; exact ⟨h91, h96⟩
            · exact (Chg.of_nw N8.out).trans cg (fun x hx => .inl hx)
end Go.Proofs.Ytfpllllglpjipaa

