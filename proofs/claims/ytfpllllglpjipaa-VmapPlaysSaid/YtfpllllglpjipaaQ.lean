/- What the reference's Twice returns. -/
import Derived.Test.YtfpllllglpjipaaI
namespace Go.Proofs.Ytfpllllglpjipaa
open Go.RowKit Go.BW

theorem dup_true {ps : List Wh} {n i j : Nat} {x : Wh} (hij : i < j) (hj : j < n) (ei : ps[i]? = some x) (ej : ps[j]? = some x) (h0 : x.t ≠ 0) : dupN ps n = true := by
  cases h : dupN ps n with
  | true => rfl
  | false => exact absurd ((dup_iff ps n).1 h i j x hij hj ei ej) h0
theorem dup_step {ps : List Wh} {k : Nat} {x : Wh} (h : dupN ps k = false) (ek : ps[k]? = some x) (hno : ∀ i, i < k → ps[i]? = some x → x.t = 0) : dupN ps (k + 1) = false := by
  rw [dup_iff] at h ⊢
  intro i j y hij hj ei ej
  rcases Nat.lt_or_ge j k with h1 | h1
  · exact h i j y hij h1 ei ej
  · have : j = k := by omega
    subst this
    rw [ek] at ej
    injection ej with ej
    subst ej
    exact hno i hij ei
set_option maxHeartbeats 4000000 in
theorem twice_any {w : World} {B n c : Nat} {A : Option Addr} {ps : List Wh} (h : Rd w B 3 A n (fl wc ps)) (hB : B ≤ w.heap.size) (hn : n ≤ 100000) : Calls Try.prog 24 #[.slice A n c] w (Ret (.bool (dupN ps n)) w) := by
  have HR := Lib.hid h; clear h
  go_enter Try.func24, Try.ntmps24
  go_wp2_with fail
  go_loopw [3] (fun i wr => ∃ k : Nat, k ≤ n ∧ i = .int .i64 k ∧ dupN ps k = false ∧ Nw w wr) (fun i _ => n - (intOf i).toNat)
  case atStart => exact ⟨0, Nat.zero_le _, rfl, rfl, Nw.refl w⟩
  case round =>
    obtain ⟨k, hk, rfl, hd, hnw⟩ := hrel
    have HD := Lib.hid hd; have HNW := Lib.hid hnw; clear hd hnw
    by_cases hlt : k < n
    · obtain ⟨b, off, x, rfl, hx, hc⟩ := wh3 (HR.out.nw HNW.out hB) (Nat.le_trans hB HNW.out.size) hlt
      have HX := Lib.hid hx; have HC := Lib.hid hc; clear hx hc
      obtain ⟨w1, hw1⟩ : ∃ w1, w1 = wr := ⟨_, rfl⟩
      subst hw1
      go_wp2_with fail
      go_loopw [4] (fun j wr => ∃ m : Nat, m ≤ k ∧ j = .int .i64 m ∧ Hid (∀ i, i < m → ps[i]? = some x → x.t = 0) ∧ Nw w1 wr) (fun j _ => k - (intOf j).toNat)
      case atStart => exact ⟨0, Nat.zero_le _, rfl, Lib.hid (fun i h => by omega), Nw.refl _⟩
      case round =>
        obtain ⟨m, hm, rfl, HNO, hnw2⟩ := hrel
        have HN2 := Lib.hid hnw2; clear hnw2
        by_cases hlm : m < k
        · obtain ⟨b', off', y, e, hy, hc'⟩ := wh3 (HR.out.nw (gb_trans HNW.out HN2.out) hB) (Nat.le_trans hB (gb_trans HNW.out HN2.out).size) (show m < n by omega)
          injection e with e; injection e with e1 e2; subst e1; subst e2
          have hkn : m < n := by omega
          have g0 := fun w' k => (hc' w' k).1; have g1 := fun w' k => (hc' w' k).2.1; have g2 := fun w' k => (hc' w' k).2.2
          have f0 := fun w' k => (HC.out w' (gb_trans HN2.out k)).1; have f1 := fun w' k => (HC.out w' (gb_trans HN2.out k)).2.1; have f2 := fun w' k => (HC.out w' (gb_trans HN2.out k)).2.2
          have HY := Lib.hid hy; clear hy hc'
          obtain ⟨r, hr⟩ : ∃ r, eqW x y = r := ⟨_, rfl⟩
          have HRR := Lib.hid hr; clear hr
          cases r with
          | false =>
            go_wp2_with fail
            refine wp_region_held (S := (fun w' => Nw wr w')) (by kernel_rfl) ?_
            change wpAnyH _ _ _ _ _ _ _ _ (World.drew wr)
            refine held_seg' (l := [0, 1, 2, 3, 4, 5, 6, 7, 8, 9, 10, 11, 12, 13, 14, 15, 16]) (fuel := 0) rfl (by kernel_rfl) (by kernel_rfl) (by simp only [List.filterMap_cons, List.filterMap_nil, List.getElem?_toArray, List.getElem?_cons_succ, List.getElem?_cons_zero]; rfl) (fun _ _ d _ _ h => by cases d <;> exact h) (gb_drew (Nw.refl wr)) ?_
            iterate 8 (refine wpYield_step rfl (fun K hK => ?_)
                       apply Exists.intro
                       refine ⟨fun w' hw' => ?_, ?_⟩
                       · (go_simp; try with_reducible rfl)
                       go_simp
                       refine hK _ ?_
                       clear hK K)
            refine wpYield_eq_wh rfl false _ _ _ rfl rfl x y rfl rfl false (by have := HRR.out; unfold eqW at this; simpa using this) ?_
            (refine wpYield_step rfl (fun K hK => ?_)
             apply Exists.intro
             refine ⟨fun w' hw' => ?_, ?_⟩
             · (go_simp; try with_reducible rfl)
             go_simp
             refine hK _ ?_
             clear hK K)
            iterate 6 (refine wpYield_skipK rfl (fun K hK => ?_); go_simp; refine hK _ ?_; clear hK K)
            (refine wpYield_step rfl (fun K hK => ?_)
             apply Exists.intro
             refine ⟨fun w' hw' => ?_, ?_⟩
             · (go_simp; try with_reducible rfl)
             go_simp
             refine hK _ ?_
             clear hK K)
            refine wpYield_nil ?_
            refine wpAnyH_done (by kernel_rfl) ?_ _
            go_wp2
            refine ⟨⟨m + 1, hlm, by go_num, Lib.hid fun i hi e => ?_, gb_trans HN2.out (gb_drew (Nw.refl wr))⟩, by simp [intOf]; omega⟩
            rcases Nat.lt_or_ge i m with h1 | h1
            · exact HNO.out i h1 e
            · have : i = m := by omega
              subst this
              rw [HY.out] at e
              injection e with e
              have := HRR.out
              rw [e, eqW_self] at this
              cases this
          | true =>
            have exy := eqW_iff.1 HRR.out
            subst exy
            obtain ⟨xt, hxt⟩ : ∃ xt, x.t = xt := ⟨_, rfl⟩
            rw [hxt] at f0 g0
            have HT := Lib.hid hxt; clear hxt
            by_cases h0 : xt = 0
            · subst h0
              go_wp2_with fail
              refine wp_region_held (S := (fun w' => Nw wr w')) (by kernel_rfl) ?_
              change wpAnyH _ _ _ _ _ _ _ _ (World.drew wr)
              refine held_seg' (l := [0, 1, 2, 3, 4, 5, 6, 7, 8, 9, 10, 11, 12, 13, 14, 15, 16]) (fuel := 0) rfl (by kernel_rfl) (by kernel_rfl) (by simp only [List.filterMap_cons, List.filterMap_nil, List.getElem?_toArray, List.getElem?_cons_succ, List.getElem?_cons_zero]; rfl) (fun _ _ d _ _ h => by cases d <;> exact h) (gb_drew (Nw.refl wr)) ?_
              iterate 8 (refine wpYield_step rfl (fun K hK => ?_)
                         apply Exists.intro
                         refine ⟨fun w' hw' => ?_, ?_⟩
                         · (go_simp; try with_reducible rfl)
                         go_simp
                         refine hK _ ?_
                         clear hK K)
              refine wpYield_eq_wh rfl false _ _ _ rfl rfl ⟨0, x.g, x.s⟩ ⟨0, x.g, x.s⟩ rfl rfl true (by simp) ?_
              iterate 8 (refine wpYield_step rfl (fun K hK => ?_)
                         apply Exists.intro
                         refine ⟨fun w' hw' => ?_, ?_⟩
                         · (go_simp; try with_reducible rfl)
                         go_simp
                         refine hK _ ?_
                         clear hK K)
              refine wpYield_nil ?_
              refine wpAnyH_done (by kernel_rfl) ?_ _
              go_wp2
              refine ⟨⟨m + 1, hlm, by go_num, Lib.hid fun i hi e => HT.out, gb_trans HN2.out (gb_drew (Nw.refl wr))⟩, by simp [intOf]; omega⟩
            · have b0 : (xt != 0) = true := by simpa using h0
              have HD2 := Lib.hid (dup_true hlm hlt HY.out HX.out (by rw [HT.out]; exact h0))
              go_wp2_with fail
              refine wp_region_held (S := (fun w' => Nw wr w')) (by kernel_rfl) ?_
              change wpAnyH _ _ _ _ _ _ _ _ (World.drew wr)
              refine held_seg' (l := [0, 1, 2, 3, 4, 5, 6, 7, 8, 9, 10, 11, 12, 13, 14, 15, 16]) (fuel := 0) rfl (by kernel_rfl) (by kernel_rfl) (by simp only [List.filterMap_cons, List.filterMap_nil, List.getElem?_toArray, List.getElem?_cons_succ, List.getElem?_cons_zero]; rfl) (fun _ _ d _ _ h => by cases d <;> exact h) (gb_drew (Nw.refl wr)) ?_
              iterate 8 (refine wpYield_step rfl (fun K hK => ?_)
                         apply Exists.intro
                         refine ⟨fun w' hw' => ?_, ?_⟩
                         · (go_simp; try with_reducible rfl)
                         go_simp
                         refine hK _ ?_
                         clear hK K)
              refine wpYield_eq_wh rfl false _ _ _ rfl rfl ⟨xt, x.g, x.s⟩ ⟨xt, x.g, x.s⟩ rfl rfl true (by simp) ?_
              iterate 8 (refine wpYield_step rfl (fun K hK => ?_)
                         apply Exists.intro
                         refine ⟨fun w' hw' => ?_, ?_⟩
                         · (go_simp; try with_reducible rfl)
                         go_simp
                         refine hK _ ?_
                         clear hK K)
              refine wpYield_nil ?_
              refine wpAnyH_done (by kernel_rfl) ?_ _
              go_wp2
              go_ret
              exact ⟨by rw [HD2.out]; rfl, gb_trans HNW.out (gb_trans HN2.out (gb_drew (Nw.refl wr)))⟩
        · have hm' : m = k := by omega
          subst hm'
          have HD3 := Lib.hid (dup_step HD.out HX.out HNO.out)
          go_wp2
          exact ⟨⟨m + 1, hlt, by go_num, HD3.out, gb_trans HNW.out HN2.out⟩, by simp [intOf]; omega⟩
    · have hk' : k = n := by omega
      subst hk'
      go_wp2
      go_ret
      exact ⟨by rw [HD.out]; rfl, HNW.out⟩
end Go.Proofs.Ytfpllllglpjipaa

