/- The Go function VmapBounds returns true for every place; without conditions. -/
import Derived.Test.YtfpllllglpjipaaF
namespace Go.Proofs.Ytfpllllglpjipaa
open Go.RowKit Go.BW

theorem set3 (x : Wh) : setF (List.replicate 3 w0) [⟨1, x⟩] = if mayB x then (0, [w0, x, w0]) else (1, List.replicate 3 w0) := by
  unfold setF
  rw [if_neg (by unfold allIn inB; simp)]
  simp only [List.all_cons, List.all_nil, Bool.and_true]
  cases mayB x with
  | false => rfl
  | true =>
    rw [if_neg (by decide)]
    have e : applyN (List.replicate 3 w0) [⟨1, x⟩] [(⟨1, x⟩ : Ch)].length = [w0, x, w0] := rfl
    rw [e]
    have e2 : dupN [w0, x, w0] (List.replicate 3 w0).length = false := by
      show dupN [w0, x, w0] 3 = false
      unfold dupN dupN dupN dupN heldN heldN heldN
      by_cases h : x.t = 0 <;> simp [w0, h, look]
    rw [e2]
    rfl
set_option maxRecDepth 100000 in
set_option maxHeartbeats 8000000 in
theorem bounds_case (xt xg xs : Int) (hx : okW ⟨xt, xg, xs⟩) (w : World) (r en : Bool) (hr : mayB ⟨xt, xg, xs⟩ = r) (hen : eqW ⟨xt, xg, xs⟩ w0 = en)
    (hc : (xt = 0 ∧ r = en) ∨ (xt = 1 ∧ en = false ∧ r = true ∧ 0 ≤ xs ∧ 0 ≤ xg ∧ xs ≤ 7 ∧ xg ≤ 255) ∨ (xt = 1 ∧ en = false ∧ r = false ∧ (¬ 0 ≤ xs ∨ (0 ≤ xs ∧ ¬ xs ≤ 7) ∨ (0 ≤ xs ∧ xs ≤ 7 ∧ ¬ 0 ≤ xg) ∨ (0 ≤ xs ∧ xs ≤ 7 ∧ 0 ≤ xg ∧ decide (xg ≤ 255) = false))) ∨
      (xt = 2 ∧ en = false ∧ r = true ∧ 0 ≤ xs ∧ 0 ≤ xg ∧ xs ≤ 87 ∧ xg ≤ 255) ∨ (xt = 2 ∧ en = false ∧ r = false ∧ (¬ 0 ≤ xs ∨ (0 ≤ xs ∧ ¬ xs ≤ 87) ∨ (0 ≤ xs ∧ xs ≤ 87 ∧ ¬ 0 ≤ xg) ∨ (0 ≤ xs ∧ xs ≤ 87 ∧ 0 ≤ xg ∧ decide (xg ≤ 255) = false))) ∨
      ((xt == 0) = false ∧ (xt == 1) = false ∧ (xt == 2) = false ∧ r = false ∧ en = false)) :
    Calls Try.prog 5 #[wv ⟨xt, xg, xs⟩] w (Ret (.bool true) w) := by
  have hnew := Lib.hid (show ∀ w, Calls Try.prog 10 #[.int .i64 3] w (NewPost 3 w) from fun w => new_any 3 w)
  obtain ⟨i0, hi0, hz0, _⟩ := T28.info
  have HZ := Lib.hid hz0; clear hz0
  have H0 := Lib.hid hi0; clear hi0
  obtain ⟨xr, hxr⟩ : ∃ xr : Wh, (if r then (⟨xt, xg, xs⟩ : Wh) else w0) = xr := ⟨_, rfl⟩
  have HXR := Lib.hid hxr
  have hE : eqW xr ⟨xt, xg, xs⟩ = r := by
    rw [← hxr]
    cases r with
    | true => exact eqW_self _
    | false =>
      refine eqW_ne fun e => ?_
      simp only [Bool.false_eq_true, if_false] at e
      rw [← e] at hr
      revert hr
      decide
  have HS := Lib.hid (show setF (List.replicate 3 w0) [⟨1, xt, xg, xs⟩] = (cond r 0 1, [w0, xr, w0]) from by
    rw [set3, hr, ← hxr]
    cases r <;> rfl)
  have HE := Lib.hid hE; clear hE hxr HXR
  have HOK := Lib.hid hx; have HR := Lib.hid hr; have HEN := Lib.hid hen
  clear hx hr hen
  unfold wv
  obtain ⟨rt, rg, rs⟩ := xr
  rcases hc with ⟨rfl, rfl⟩ | ⟨rfl, rfl, rfl, h1, h2, h3, h4⟩ | ⟨rfl, rfl, rfl, (h1 | ⟨h1, h2⟩ | ⟨h1, h2, h3⟩ | ⟨h1, h2, h3, h4⟩)⟩ | ⟨rfl, rfl, rfl, h1, h2, h3, h4⟩ | ⟨rfl, rfl, rfl, (h1 | ⟨h1, h2⟩ | ⟨h1, h2, h3⟩ | ⟨h1, h2, h3, h4⟩)⟩ | ⟨h1, h2, h3, rfl, rfl⟩
  rcases r with _ | _
  all_goals
    go_enter Try.func5, Try.ntmps5
    go_wp2_with (first | ((with_reducible refine (shown_any _).mono ?_); rintro e w1 ⟨rfl, n1⟩; have OB1 := Lib.hid (show W3 w1 w.heap.size _ xg xs from (Obj1.new w 31 _).nw n1); have N1 := Lib.hid (gb_trans (World.grownBy_alloc w _ none) n1); clear n1) |
      (refine (hnew.out _).mono ?_; rintro e w2 h1; obtain ⟨g, rfl, s1, _, n2⟩ := VS.of_new N1.out h1; have S2 := Lib.hid s1; have OB2 := Lib.hid (show W3 w2 w.heap.size _ xg xs from Obj1.nw OB1.out n2); clear s1 h1 n2; unfold pv; obtain ⟨d0, d1, d2⟩ := w3cells OB2.out))
    refine (set_any (S2.out.rep.nw (World.grownBy_alloc w2 _ none)) (rd_lit4 [⟨1, _, xg, xs⟩] _ rfl) (by simp) (by simp) (by
      have := HOK.out
      unfold okW okI at this
      unfold okC okW okI
      simpa using this) (inv_zero 3).ok).mono ?_
    intro e w5 h5
    obtain ⟨rfl, s5, c5⟩ := (S2.out.more (World.grownBy_alloc w2 _ none)).set h5
    have S5 := Lib.hid s5; have OB5 := Lib.hid ((show W3 _ w.heap.size _ xg xs from Obj1.nw OB2.out (World.grownBy_alloc w2 _ none)).chg (S2.out.rep.nw (World.grownBy_alloc w2 _ none)) c5)
    clear s5 c5 h5 d0 d1 d2
    rw [HS.out] at S5 ⊢
    try simp only [cond_true, cond_false] at S5 ⊢
    obtain ⟨d0, d1, d2⟩ := w3cells OB5.out
    go_wp2_with (first |
      (have := OB8; refine wpList_eqW rfl _ _ _ rfl rfl ⟨rt, rg, rs⟩ ⟨_, xg, xs⟩ rfl rfl HE.out ?_) |
      (refine wpList_store_own (cs := wc ⟨rt, rg, rs⟩) 31 _ _ rfl rfl rfl rfl rfl i31 (wc_one _) A1.out (show 0 + 3 ≤ 1 * 3 by omega) ?_; intro w8 s1 s2; have o3 := Own.row1' s1; rw [splice_all _ _ (by rfl)] at o3; have OY := Lib.hid (show W3 w8 y rt rg rs from o3); have N8 := Lib.hid (nw_of_gb A2.out s2 (by intro x e; injection e with e; have := A3.out; omega) : Nw w6 w8); obtain ⟨f0, f1, f2⟩ := w3cells OY.out; have OB8 := Lib.hid (Obj1.nw OB6.out N8.out); obtain ⟨g0, g1, g2⟩ := w3cells OB8.out; clear o3 s1 s2) |
      (refine wpList_alloc (size := 3) 31 rfl rfl w.heap.size i0 H0.out HZ.out rfl S6.out.nw.size ?_; intro y w7 a1 a2 a3; have A1 := Lib.hid a1; have A2 := Lib.hid a2; have A3 := Lib.hid a3; clear a1 a2 a3) |
      (refine (at_in S5.out.rep 1 ⟨rt, rg, rs⟩ rfl).mono ?_; rintro e w6 ⟨rfl, n6⟩; have S6 := Lib.hid (S5.out.more n6); have OB6 := Lib.hid (Obj1.nw OB5.out n6); clear n6) |
      (refine wpList_eqW rfl _ _ _ rfl rfl ⟨_, xg, xs⟩ w0 rfl rfl HEN.out ?_))
    go_ret
    exact ⟨by first | rfl | (simp; omega), gb_trans S6.out.nw N8.out⟩
theorem bounds_walk (x : Wh) (hx : okW x) (w : World) : Calls Try.prog 5 #[wv x] w (Ret (.bool true) w) := by
  obtain ⟨xt, xg, xs⟩ := x
  refine bounds_case xt xg xs hx w _ _ rfl rfl ?_
  by_cases h0 : xt = 0
  · subst h0
    left
    exact ⟨rfl, by simp [mayB, eqW]⟩
  · by_cases h1 : xt = 1
    · subst h1
      right
      have hm : mayB ⟨1, xg, xs⟩ = decide (0 ≤ xs ∧ 0 ≤ xg ∧ xs ≤ 7 ∧ xg ≤ 255) := rfl
      have he : eqW ⟨1, xg, xs⟩ w0 = false := by simp [w0, eqW]
      rw [hm, he]
      simp
      omega
    · by_cases h2 : xt = 2
      · subst h2
        right
        have hm : mayB ⟨2, xg, xs⟩ = decide (0 ≤ xs ∧ 0 ≤ xg ∧ xs ≤ 87 ∧ xg ≤ 255) := rfl
        have he : eqW ⟨2, xg, xs⟩ w0 = false := by simp [w0, eqW]
        rw [hm, he]
        simp
        omega
      · right; right; right; right; right
        simp [mayB, h0, h1, h2, w0, eqW]
end Go.Proofs.Ytfpllllglpjipaa

