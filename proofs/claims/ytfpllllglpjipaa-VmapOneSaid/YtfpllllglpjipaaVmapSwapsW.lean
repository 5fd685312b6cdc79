/- The Go function VmapSwaps returns true for every int, slice of changes and two ints; without conditions. -/
import Derived.Test.YtfpllllglpjipaaH
namespace Go.Proofs.Ytfpllllglpjipaa
open Go.RowKit Go.BW

theorem mod_nat (m N : Nat) (h : 1 ≤ N) : ∃ q : Nat, q < N ∧ (m : Int) % (N : Int) = (q : Int) := ⟨m % N, Nat.mod_lt _ (by omega), by omega⟩
theorem and_nat (x : Int) : ∃ m : Nat, m ≤ 255 ∧ bits .and .i64 x 255 = (m : Int) := by
  have h := and_mask x 8 (by omega)
  simp at h
  exact ⟨(x % 256).toNat, by omega, by rw [h]; omega⟩
def SetsRel (w : World) (g N : Nat) (wr : World) : Prop := ∃ ps, VS w wr g ps ∧ Inv ps ∧ ps.length = N
set_option maxRecDepth 100000 in
set_option maxHeartbeats 8000000 in
theorem swaps_walk (n0 : Int) (_ : -9223372036854775808 ≤ n0 ∧ n0 ≤ 9223372036854775807) {w : World} (A : Option Addr) (len cap : Nat) (l : List Ch) (hin : InC w A len cap l) (a : Int) (_ : -9223372036854775808 ≤ a ∧ a ≤ 9223372036854775807) (b : Int) (_ : -9223372036854775808 ≤ b ∧ b ≤ 9223372036854775807) :
    Calls Try.prog 4 #[.int .i64 n0, .slice A len cap, .int .i64 a, .int .i64 b] w (Ret (.bool true) w) := by
  obtain ⟨hr, hc, hcm, hll, hok⟩ := hin
  have HR := Lib.hid (show Rd w w.heap.size 4 A len (fl cc l) from hr)
  have HOK := Lib.hid hok
  have HLL := Lib.hid hll
  clear hr hok hll
  unfold maxLen at hcm
  obtain ⟨N, hN⟩ : ∃ N, numN n0 = N := ⟨_, rfl⟩
  have hNb := numN_b n0
  have hnew := fun w => new_any n0 w
  rw [hN] at hNb hnew
  have HNEW := Lib.hid hnew; clear hnew hN
  obtain ⟨i0, hi0, hz0, _⟩ := T28.info
  have HZ := Lib.hid hz0; clear hz0
  have H0 := Lib.hid hi0; clear hi0
  go_enter Try.func4, Try.ntmps4
  go_wp2_with (first | ((with_reducible refine (shown_any _).mono ?_); rintro e w1 ⟨rfl, n1⟩; have N1 := Lib.hid n1; clear n1) |
    (refine (HNEW.out _).mono ?_; rintro e w2 h1; obtain ⟨ga, rfl, s1, hga, n2⟩ := VS.of_new N1.out h1; have S1 := Lib.hid s1; clear s1 h1 hga n2; unfold pv))
  go_loopw [11] (fun i wr => ∃ i' : Nat, i = .int .i64 i' ∧ i' ≤ 60 ∧ i' ≤ len ∧ SetsRel w ga N wr) (fun i _ => 60 - (intOf i).toNat)
  case atStart => exact ⟨0, rfl, by omega, by omega, _, S1.out, inv_zero N, by simp⟩
  case round =>
    obtain ⟨i, rfl, hi1, hi2, ps, s5, inv5, len5⟩ := hrel
    have S5 := Lib.hid s5; have I5 := Lib.hid inv5; have L5 := Lib.hid len5; clear s5 inv5 len5
    by_cases hlt : i < len ∧ i < 60
    · obtain ⟨hlt1, hlt2⟩ := hlt
      obtain ⟨b, off, rfl, _⟩ := HR.out.2 (by omega)
      obtain ⟨x, hx⟩ : ∃ x, l[i]? = some x := ⟨l[i]'(by rw [HLL.out]; exact hlt1), List.getElem?_eq_getElem _⟩
      have HX := Lib.hid hx; clear hx
      go_wp2_with (refine (set_any S5.out.rep (rd_one4 (HR.out.nw S5.out.nw (Nat.le_refl _)) hlt1 HX.out) S5.out.nw.size (by omega) (by simp; exact HOK.out _ (List.mem_of_getElem? HX.out)) I5.out.ok).mono ?_; intro e w6 h6; obtain ⟨rfl, s6, c6⟩ := S5.out.set h6; have S6 := Lib.hid s6; have I6 := Lib.hid (inv_set (l := [x]) I5.out (by simp; exact HOK.out _ (List.mem_of_getElem? HX.out))); clear s6 c6 h6)
      exact ⟨⟨i + 1, by go_num, by omega, hlt1, _, S6.out, I6.out, by rw [setF_len]; exact L5.out⟩, by simp [intOf]; omega⟩
    · have hcases : (¬ i < len) ∨ (i < len ∧ i = 60) := by omega
      clear hlt
      obtain ⟨ma, hma2, hma⟩ := and_nat a
      obtain ⟨mb, hmb2, hmb⟩ := and_nat b
      obtain ⟨qa, hqa2, hqa⟩ := mod_nat ma N hNb.1
      obtain ⟨qb, hqb2, hqb⟩ := mod_nat mb N hNb.1
      obtain ⟨x, hx⟩ : ∃ x, ps[qa]? = some x := ⟨ps[qa]'(by rw [L5.out]; exact hqa2), List.getElem?_eq_getElem _⟩
      obtain ⟨y, hy⟩ : ∃ y, ps[qb]? = some y := ⟨ps[qb]'(by rw [L5.out]; exact hqb2), List.getElem?_eq_getElem _⟩
      obtain ⟨xt, xg, xs⟩ := x
      obtain ⟨yt, yg, ys⟩ := y
      have HXA := Lib.hid hx; have HYB := Lib.hid hy
      have HLN := Lib.hid (show ∀ w', VRep w' ga ps → Calls Try.prog 14 #[pv ga] w' fun e w'' => e = .returned (.int .i64 N) ∧ w' = w'' from fun w' h => by have := len_any h; rwa [L5.out] at this)
      have hokx := I5.out.ok _ (List.mem_of_getElem? hx); have hoky := I5.out.ok _ (List.mem_of_getElem? hy)
      unfold okW okI at hokx hoky
      simp only at hokx hoky
      clear hx hy
      rcases (show qa = qb ∨ (qa ≠ qb ∧ xt = 0) ∨ (qa ≠ qb ∧ xt ≠ 0 ∧ yt = 0) ∨ (qa ≠ qb ∧ xt ≠ 0 ∧ yt ≠ 0) from by omega) with hq | ⟨hq, hx0⟩ | ⟨hq, hx0, hy0⟩ | ⟨hq, hx0, hy0⟩
      rotate_right
      · have b1 : ((qa : Int) == (qb : Int)) = false := by rw [beq_eq_false_iff_ne]; omega
        have b2 : (xt == 0) = false := by simpa using hx0
        have b3 : (yt == 0) = false := by simpa using hy0
        have b4 : (qa == qb) = false := by simpa using hq
        have HSF1 := Lib.hid (set_one I5.out hq (by rw [L5.out]; exact hqa2) HYB.out hy0)
        have HSF2 := Lib.hid (set_swap I5.out hq HXA.out HYB.out)
        have HOK1 := Lib.hid (show ∀ x ∈ [(⟨(qa : Int), yt, yg, ys⟩ : Ch)], okC x from by unfold okC okW okI; simp; omega)
        have HOK2 := Lib.hid (show ∀ x ∈ [(⟨(qa : Int), yt, yg, ys⟩ : Ch), ⟨(qb : Int), xt, xg, xs⟩], okC x from by unfold okC okW okI; simp; omega)
        have HYA2 := Lib.hid (show ((ps.set qa ⟨yt, yg, ys⟩).set qb ⟨xt, xg, xs⟩)[qa]? = some ⟨yt, yg, ys⟩ from by rw [List.getElem?_set_ne (Ne.symm hq), List.getElem?_set_self (by rw [L5.out]; exact hqa2)])
        have HXB2 := Lib.hid (show ((ps.set qa ⟨yt, yg, ys⟩).set qb ⟨xt, xg, xs⟩)[qb]? = some ⟨xt, xg, xs⟩ from List.getElem?_set_self (by rw [List.length_set, L5.out]; exact hqb2))
        have hq1 := Lib.hid hq; clear hq
        rcases hcases with hlt1 | ⟨hlt1, rfl⟩
        all_goals
          go_wp2_with (first | (refine (HLN.out _ S5.out.rep).mono ?_; rintro e w2 ⟨rfl, rfl⟩) |
          (refine wpList_alloc (size := 3) 31 rfl rfl w.heap.size i0 H0.out HZ.out rfl S8.out.nw.size ?_; intro vY wx9 a1 a2 a3; have A9 := Lib.hid a1; have N9 := Lib.hid a2; have YY9 := Lib.hid a3; clear a1 a2 a3) |
          (refine wpList_store_own (cs := wc ⟨yt, yg, ys⟩) 31 _ _ rfl rfl rfl rfl rfl i31 (wc_one _) A9.out (show 0 + 3 ≤ 1 * 3 by omega) ?_; intro w9 s1 s2; have o3 := Own.row1' s1; rw [splice_all _ _ (by rfl)] at o3; have Y9 := Lib.hid (show W3 w9 vY yt yg ys from o3); have m9 := nw_of_gb N9.out s2 (by intro x e; injection e with e; subst e; exact YY9.out); have S9 := Lib.hid (S8.out.more m9); have X9 := Lib.hid (Obj1.nw X8.out m9); clear o3 s1 s2 m9; obtain ⟨e0, e1, e2⟩ := w3cells X9.out; obtain ⟨f0, f1, f2⟩ := w3cells Y9.out) |
          (refine (at_in S7.out.rep qb ⟨yt, yg, ys⟩ HYB.out).mono ?_; rintro e w8 ⟨rfl, n8⟩; have S8 := Lib.hid (S7.out.more n8); have X8 := Lib.hid (Obj1.nw X7.out n8); clear n8) |
          (refine wpList_alloc (size := 3) 31 rfl rfl w.heap.size i0 H0.out HZ.out rfl S6.out.nw.size ?_; intro vX wx7 a1 a2 a3; have A7 := Lib.hid a1; have N7 := Lib.hid a2; have YY7 := Lib.hid a3; clear a1 a2 a3) |
          (refine wpList_store_own (cs := wc ⟨xt, xg, xs⟩) 31 _ _ rfl rfl rfl rfl rfl i31 (wc_one _) A7.out (show 0 + 3 ≤ 1 * 3 by omega) ?_; intro w7 s1 s2; have o3 := Own.row1' s1; rw [splice_all _ _ (by rfl)] at o3; have X7 := Lib.hid (show W3 w7 vX xt xg xs from o3); have m7 := nw_of_gb N7.out s2 (by intro x e; injection e with e; subst e; exact YY7.out); have S7 := Lib.hid (S6.out.more m7); clear o3 s1 s2 m7) |
          (refine (at_in S5.out.rep qa ⟨xt, xg, xs⟩ HXA.out).mono ?_; rintro e w6 ⟨rfl, n6⟩; have S6 := Lib.hid (S5.out.more n6); clear n6))
          have n11 := World.grownBy_alloc w9 (.cells #[.int .i64 qa, .int .i64 yt, .int .i64 yg, .int .i64 ys] 33) none
          refine (set_any (S9.out.rep.nw n11) (rd_lit4 [⟨(qa : Int), yt, yg, ys⟩] _ rfl) (by simp) (by simp) HOK1.out I5.out.ok).mono ?_
          intro e w11 h11
          obtain ⟨rfl, s11, c11⟩ := (S9.out.more n11).set h11
          have S11 := Lib.hid s11; have X11 := Lib.hid ((show W3 _ vX xt xg xs from Obj1.nw X9.out n11).chg (S9.out.rep.nw n11) c11); have Y11 := Lib.hid ((show W3 _ vY yt yg ys from Obj1.nw Y9.out n11).chg (S9.out.rep.nw n11) c11)
          clear s11 c11 h11 n11 e0 e1 e2 f0 f1 f2
          rw [HSF1.out] at S11 ⊢
          obtain ⟨e0, e1, e2⟩ := w3cells X11.out; obtain ⟨f0, f1, f2⟩ := w3cells Y11.out
          go_wp2_with fail
          have n13 := World.grownBy_alloc w11 (.cells #[.int .i64 qa, .int .i64 yt, .int .i64 yg, .int .i64 ys, .int .i64 qb, .int .i64 xt, .int .i64 xg, .int .i64 xs] 33) none
          refine (set_any (S11.out.rep.nw n13) (rd_lit4 [⟨(qa : Int), yt, yg, ys⟩, ⟨(qb : Int), xt, xg, xs⟩] _ rfl) (by simp) (by simp) HOK2.out I5.out.ok).mono ?_
          intro e w13 h13
          obtain ⟨rfl, s13, c13⟩ := (S11.out.more n13).set h13
          have S13 := Lib.hid s13; have X13 := Lib.hid ((show W3 _ vX xt xg xs from Obj1.nw X11.out n13).chg (S11.out.rep.nw n13) c13); have Y13 := Lib.hid ((show W3 _ vY yt yg ys from Obj1.nw Y11.out n13).chg (S11.out.rep.nw n13) c13)
          clear s13 c13 h13 n13 e0 e1 e2 f0 f1 f2
          rw [HSF2.out] at S13 ⊢
          obtain ⟨e0, e1, e2⟩ := w3cells X13.out; obtain ⟨f0, f1, f2⟩ := w3cells Y13.out

          clear e0 e1 e2 f0 f1 f2
          go_wp2_with (first | (have := V17; refine wpList_eqW rfl _ _ _ rfl rfl ⟨xt, xg, xs⟩ ⟨xt, xg, xs⟩ rfl rfl (eqW_self _) ?_) |
          (have := V17; refine wpList_eqW rfl _ _ _ rfl rfl ⟨yt, yg, ys⟩ ⟨yt, yg, ys⟩ rfl rfl (eqW_self _) ?_) |
          (refine wpList_alloc (size := 3) 31 rfl rfl w.heap.size i0 H0.out HZ.out rfl S16.out.nw.size ?_; intro vV wx17 a1 a2 a3; have A17 := Lib.hid a1; have N17 := Lib.hid a2; have YY17 := Lib.hid a3; clear a1 a2 a3) |
          (refine wpList_store_own (cs := wc ⟨xt, xg, xs⟩) 31 _ _ rfl rfl rfl rfl rfl i31 (wc_one _) A17.out (show 0 + 3 ≤ 1 * 3 by omega) ?_; intro w17 s1 s2; have o3 := Own.row1' s1; rw [splice_all _ _ (by rfl)] at o3; have V17 := Lib.hid (show W3 w17 vV xt xg xs from o3); have m17 := nw_of_gb N17.out s2 (by intro x e; injection e with e; subst e; exact YY17.out); have S17 := Lib.hid (S16.out.more m17); have X17 := Lib.hid (Obj1.nw X16.out m17); have Y17 := Lib.hid (Obj1.nw Y16.out m17); have U17 := Lib.hid (Obj1.nw U16.out m17); clear o3 s1 s2 m17; obtain ⟨e0, e1, e2⟩ := w3cells X17.out; obtain ⟨f0, f1, f2⟩ := w3cells Y17.out; obtain ⟨g0, g1, g2⟩ := w3cells U17.out; obtain ⟨k0, k1, k2⟩ := w3cells V17.out) |
          (refine (at_in S15.out.rep qb ⟨xt, xg, xs⟩ HXB2.out).mono ?_; rintro e w16 ⟨rfl, n16⟩; have S16 := Lib.hid (S15.out.more n16); have X16 := Lib.hid (Obj1.nw X15.out n16); have Y16 := Lib.hid (Obj1.nw Y15.out n16); have U16 := Lib.hid (Obj1.nw U15.out n16); clear n16) |
          (refine wpList_alloc (size := 3) 31 rfl rfl w.heap.size i0 H0.out HZ.out rfl S14.out.nw.size ?_; intro vU wx15 a1 a2 a3; have A15 := Lib.hid a1; have N15 := Lib.hid a2; have YY15 := Lib.hid a3; clear a1 a2 a3) |
          (refine wpList_store_own (cs := wc ⟨yt, yg, ys⟩) 31 _ _ rfl rfl rfl rfl rfl i31 (wc_one _) A15.out (show 0 + 3 ≤ 1 * 3 by omega) ?_; intro w15 s1 s2; have o3 := Own.row1' s1; rw [splice_all _ _ (by rfl)] at o3; have U15 := Lib.hid (show W3 w15 vU yt yg ys from o3); have m15 := nw_of_gb N15.out s2 (by intro x e; injection e with e; subst e; exact YY15.out); have S15 := Lib.hid (S14.out.more m15); have X15 := Lib.hid (Obj1.nw X14.out m15); have Y15 := Lib.hid (Obj1.nw Y14.out m15); clear o3 s1 s2 m15) |
          (refine (at_in S13.out.rep qa ⟨yt, yg, ys⟩ HYA2.out).mono ?_; rintro e w14 ⟨rfl, n14⟩; have S14 := Lib.hid (S13.out.more n14); have X14 := Lib.hid (Obj1.nw X13.out n14); have Y14 := Lib.hid (Obj1.nw Y13.out n14); clear n14))
          go_ret
          exact ⟨rfl, S17.out.nw⟩
      all_goals
        first | have b2 : (xt == 0) = false := (by simpa using hx0) | have b2 : (xt == 0) = true := (by simpa using hx0) | skip
        try have b3 : (yt == 0) = true := (by simpa using hy0)
        first | have b1 : ((qa : Int) == (qb : Int)) = true := (by rw [beq_iff_eq]; omega) | have b1 : ((qa : Int) == (qb : Int)) = false := (by rw [beq_eq_false_iff_ne]; omega)
        first | have b4 : (qa == qb) = true := (by rw [beq_iff_eq]; omega) | have b4 : (qa == qb) = false := (by rw [beq_eq_false_iff_ne]; omega)
        clear hq
        try clear hx0
        try clear hy0
        rcases hcases with hlt1 | ⟨hlt1, rfl⟩
      all_goals
        go_wp2_with (first | (refine (HLN.out _ S5.out.rep).mono ?_; rintro e w2 ⟨rfl, rfl⟩) |
          (refine wpList_alloc (size := 3) 31 rfl rfl w.heap.size i0 H0.out HZ.out rfl S8.out.nw.size ?_; intro vY wx9 a1 a2 a3; have A9 := Lib.hid a1; have N9 := Lib.hid a2; have YY9 := Lib.hid a3; clear a1 a2 a3) |
          (refine wpList_store_own (cs := wc ⟨yt, yg, ys⟩) 31 _ _ rfl rfl rfl rfl rfl i31 (wc_one _) A9.out (show 0 + 3 ≤ 1 * 3 by omega) ?_; intro w9 s1 s2; have o3 := Own.row1' s1; rw [splice_all _ _ (by rfl)] at o3; have Y9 := Lib.hid (show W3 w9 vY yt yg ys from o3); have m9 := nw_of_gb N9.out s2 (by intro x e; injection e with e; subst e; exact YY9.out); have S9 := Lib.hid (S8.out.more m9); have X9 := Lib.hid (Obj1.nw X8.out m9); clear o3 s1 s2 m9; obtain ⟨e0, e1, e2⟩ := w3cells X9.out; obtain ⟨f0, f1, f2⟩ := w3cells Y9.out) |
          (refine (at_in S7.out.rep qb ⟨yt, yg, ys⟩ HYB.out).mono ?_; rintro e w8 ⟨rfl, n8⟩; have S8 := Lib.hid (S7.out.more n8); have X8 := Lib.hid (Obj1.nw X7.out n8); clear n8) |
          (refine wpList_alloc (size := 3) 31 rfl rfl w.heap.size i0 H0.out HZ.out rfl S6.out.nw.size ?_; intro vX wx7 a1 a2 a3; have A7 := Lib.hid a1; have N7 := Lib.hid a2; have YY7 := Lib.hid a3; clear a1 a2 a3) |
          (refine wpList_store_own (cs := wc ⟨xt, xg, xs⟩) 31 _ _ rfl rfl rfl rfl rfl i31 (wc_one _) A7.out (show 0 + 3 ≤ 1 * 3 by omega) ?_; intro w7 s1 s2; have o3 := Own.row1' s1; rw [splice_all _ _ (by rfl)] at o3; have X7 := Lib.hid (show W3 w7 vX xt xg xs from o3); have m7 := nw_of_gb N7.out s2 (by intro x e; injection e with e; subst e; exact YY7.out); have S7 := Lib.hid (S6.out.more m7); clear o3 s1 s2 m7) |
          (refine (at_in S5.out.rep qa ⟨xt, xg, xs⟩ HXA.out).mono ?_; rintro e w6 ⟨rfl, n6⟩; have S6 := Lib.hid (S5.out.more n6); clear n6))
        go_ret
        exact ⟨rfl, S9.out.nw⟩
end Go.Proofs.Ytfpllllglpjipaa

