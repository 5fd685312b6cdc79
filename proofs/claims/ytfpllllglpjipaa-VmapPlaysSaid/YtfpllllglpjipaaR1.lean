/- The reference's map of places in memory; what its New, At, In and SameInts return. -/
import Derived.Test.YtfpllllglpjipaaQ
import Derived.Test.YtfpllllglpjipaaRes
namespace Go.Proofs.Ytfpllllglpjipaa
open Go.RowKit Go.BW

structure RV (w : World) (g : Nat) (ps : List Wh) (l c : Nat) : Prop where
  obj : Obj1 w g 47 #[.slice (some ⟨l, 0, none⟩) ps.length c]
  row : Own w 0 31 3 (some ⟨l, 0, none⟩) ps.length c (fl wc ps)
  pos : 1 ≤ ps.length ∧ ps.length ≤ 96
def RR (w : World) (g : Nat) (ps : List Wh) : Prop := ∃ l c, RV w g ps l c
section
variable {w w' : World} {g g2 : Nat} {ps : List Wh}
theorem RR.nw (h : RR w g ps) (k : Nw w w') : RR w' g ps := by
  obtain ⟨l, c, h1, h2, h3⟩ := h
  exact ⟨l, c, h1.nw k, h2.nw k, h3⟩
theorem RR.lt (h : RR w g ps) : g < w.heap.size := by
  obtain ⟨l, c, h1, _⟩ := h
  exact h1.lt
end
def RNewPost (N : Nat) (w : World) (e : Ending) (w' : World) : Prop := ∃ g, e = .returned (pv g) ∧ RR w' g (List.replicate N w0) ∧ w.heap.size ≤ g ∧ Nw w w'
theorem rnew_any (n : Int) (w : World) : Calls Try.prog 17 #[.int .i64 n] w (RNewPost (numN n) w) := by
  obtain ⟨N, hN⟩ : ∃ N, numN n = N := ⟨_, rfl⟩
  have hb := numN_b n
  rw [hN] at hb ⊢
  obtain ⟨hb1, hb2⟩ := hb
  rcases (show (n < 1 ∧ ¬ 96 < n ∧ ¬ 1 < n ∧ (1 : Int) = N) ∨ (96 < n ∧ ¬ n < 1 ∧ ¬ n < 1 ∧ (96 : Int) = N) ∨ (n = 1 ∧ ¬ 96 < n ∧ ¬ 1 < n ∧ (1 : Int) = N) ∨ (1 < n ∧ ¬ 96 < n ∧ ¬ n < 1 ∧ n = N) from by unfold numN at hN; omega) with ⟨h1, h2, h3, e⟩ | ⟨h1, h2, h3, e⟩ | ⟨rfl, h2, h3, e⟩ | ⟨h1, h2, h3, e⟩
  all_goals
    clear hN
    have EV := Lib.hid e; clear e
    go_enter Try.func17, Try.ntmps17
    go_wp2_with (refine wpList_make T28 _ _ rfl rfl 0 .i64 .i64 _ _ N rfl rfl EV.out EV.out (by unfold maxLen; omega) (Nat.zero_le _) ?_; intro l w1 o1 n1 h1; have O1 := Lib.hid o1; have N1 := Lib.hid n1; have H1 := Lib.hid h1; clear o1 n1 h1)
    go_ret
    refine ⟨w1.heap.size, rfl, ⟨l, N, ?_, ?_, ?_⟩, N1.out.size, gb_alloc N1.out _⟩
    · rw [List.length_replicate]; exact Obj1.new w1 _ _
    · rw [List.length_replicate, ← made_zero]; exact O1.out.nw (World.grownBy_alloc w1 _ none)
    · rw [List.length_replicate]; exact ⟨hb1, hb2⟩
theorem rat_bad {w : World} {g : Nat} {ps : List Wh} (h : RR w g ps) (n : Int) (hn : n < 0 ∨ (ps.length : Int) ≤ n) : Calls Try.prog 19 #[pv g, .int .i64 n] w (Ret (.tuple #[wv w0, .int .i64 3]) w) := by
  obtain ⟨l, c, h1, h2, h3⟩ := h
  obtain ⟨N, hN⟩ : ∃ N, ps.length = N := ⟨_, rfl⟩
  rw [hN] at h1 hn
  have hc : ∀ w', Nw w w' → w'.cell? ⟨g, 0, none⟩ = some (.slice (some ⟨l, 0, none⟩) N c) := fun w' k => by rw [(h1.nw k).cell 0]; rfl
  have HC := Lib.hid hc
  clear h1 h2 h3 hc hN
  obtain ⟨i0, hi0, hz0, _⟩ := T28.info
  have HZ := Lib.hid hz0; clear hz0
  have H0 := Lib.hid hi0; clear hi0
  unfold pv
  rcases (show n < 0 ∨ (¬ n < 0 ∧ (N : Int) ≤ n) from by omega) with h0 | ⟨h0, h1⟩
  all_goals
    go_enter Try.func19, Try.ntmps19
    go_wp2_with (first | (refine wpList_alloc (size := 3) 31 rfl rfl w.heap.size i0 H0.out HZ.out rfl (Nat.le_refl _) ?_; intro g1 w1 a1 a2 a3; have A1 := Lib.hid a1; clear a1; have c0 := HC.out w1 a2) |
      (refine wpList_store_own (cs := wc w0) 31 _ _ rfl rfl rfl rfl rfl i31 (wc_one _) A1.out (by decide) ?_; intro w3 s1 s2))
    have o3 := Own.row1' s1
    rw [splice_all _ _ (by rfl)] at o3
    try simp only [Exit.inBlock, Exit.then]
    refine bodyPost_ret (res_cell_tmp rfl _ _ _ _ _ _ rfl o3 Try.underlying31 rfl i31) rfl ?_
    exact ⟨rfl, nw_of_gb a2 s2 (by intro x e; injection e with e; omega)⟩
theorem rat_in {w : World} {g : Nat} {ps : List Wh} (h : RR w g ps) (k : Nat) (x : Wh) (hx : ps[k]? = some x) : Calls Try.prog 19 #[pv g, .int .i64 k] w (Ret (.tuple #[wv x, .int .i64 0]) w) := by
  obtain ⟨l, c, h1, h2, h3⟩ := h
  have hk := (List.getElem?_eq_some_iff.1 hx).1
  have hw := fun (w' : World) (k : Nw w w') => (h2.nw k).atL wc_len (by omega) hx
  have hc : ∀ w', Nw w w' → w'.cell? ⟨g, 0, none⟩ = some (.slice (some ⟨l, 0, none⟩) ps.length c) := fun w' k => by rw [(h1.nw k).cell 0]; rfl
  have HC := Lib.hid (show ∀ w', Nw w w' → w'.cell? ⟨g, 0, none⟩ = some (.slice (some ⟨l, 0, none⟩) ps.length c) ∧ w'.cell? ⟨l, k * 3, none⟩ = some (.int .i64 x.t) ∧ w'.cell? ⟨l, k * 3 + 1, none⟩ = some (.int .i64 x.g) ∧ w'.cell? ⟨l, k * 3 + 2, none⟩ = some (.int .i64 x.s) from
    fun w' k => ⟨hc w' k, hw w' k 0 _ rfl, hw w' k 1 _ rfl, hw w' k 2 _ rfl⟩)
  obtain ⟨N, hN⟩ : ∃ N, ps.length = N := ⟨_, rfl⟩
  rw [hN] at HC hk
  have h96 := h3.2
  rw [hN] at h96
  have bk : decide (N ≤ k) = false := by simp; omega
  clear h1 h2 h3 hw hc hN hx
  unfold pv
  obtain ⟨i0, hi0, hz0, _⟩ := T28.info
  have HZ := Lib.hid hz0; clear hz0
  have H0 := Lib.hid hi0; clear hi0
  go_enter Try.func19, Try.ntmps19
  go_wp2_with (first | (refine wpList_alloc (size := 3) 31 rfl rfl w.heap.size i0 H0.out HZ.out rfl (Nat.le_refl _) ?_; intro g1 w1 a1 a2 a3; have A1 := Lib.hid a1; clear a1; obtain ⟨c0, c1, c2, c3⟩ := HC.out w1 a2) |
    (refine wpList_store_own (cs := wc x) 31 _ _ rfl rfl rfl rfl rfl i31 (wc_one _) A1.out (show 0 + 3 ≤ 1 * 3 by omega) ?_; intro w3 s1 s2))
  have o3 := Own.row1' s1
  rw [splice_all _ _ (by rfl)] at o3
  try simp only [Exit.inBlock, Exit.then]
  refine bodyPost_ret (res_cell_tmp rfl _ _ _ _ _ _ rfl o3 Try.underlying31 rfl i31) rfl ?_
  exact ⟨rfl, nw_of_gb a2 s2 (by intro x e; injection e with e; omega)⟩
set_option maxHeartbeats 4000000 in
theorem rin_any {w : World} {g : Nat} {ps : List Wh} (h : RR w g ps) (grp : Int) : Calls Try.prog 23 #[pv g, .int .i64 grp] w (RetOwn 3 1 ((inOf ps grp).map iv) w) := by
  obtain ⟨l, c, h1, h2, h3⟩ := h
  obtain ⟨N, hN⟩ : ∃ N, ps.length = N := ⟨_, rfl⟩
  have h96 := h3.2
  unfold inOf
  rw [hN] at h96
  have hc : ∀ w', Nw w w' → w'.cell? ⟨g, 0, none⟩ = some (.slice (some ⟨l, 0, none⟩) N c) := fun w' k => by rw [(h1.nw k).cell 0, hN]; rfl
  have HC := Lib.hid hc
  have HRW := Lib.hid h2
  rw [hN] at HRW ⊢
  have HN := Lib.hid hN; clear hN h1 h2 h3 hc
  unfold pv
  go_enter Try.func23, Try.ntmps23
  go_wp2_with fail
  go_loopw [5, 6] (fun s i wr => ∃ (k : Nat) (A : Option Addr) (n c' : Nat), k ≤ N ∧ i = .int .i64 k ∧ s = .slice A n c' ∧ Own wr w.heap.size 3 1 A n c' ((inN ps grp k).map iv) ∧ Nw w wr) (fun _ i _ => N - (intOf i).toNat)
  case atStart => exact ⟨0, none, 0, 0, Nat.zero_le _, rfl, rfl, Own.nil, Nw.refl w⟩
  case round =>
    obtain ⟨k, A, n, c', hk, rfl, rfl, ho, hnw⟩ := hrel
    have hnl : (inN ps grp k).length = n := by have := ho.len; simpa using this
    have hnk := inN_le ps grp k
    rw [hnl] at hnk
    clear hnl
    have HO := Lib.hid ho; have HNW := Lib.hid hnw; clear ho hnw
    have c0 := HC.out wr HNW.out
    by_cases hlt : k < N
    · obtain ⟨x, hx⟩ : ∃ x, ps[k]? = some x := ⟨ps[k]'(by rw [HN.out]; exact hlt), List.getElem?_eq_getElem _⟩
      have hw := (HRW.out.nw HNW.out).atL wc_len (by omega) hx
      have e0 := hw 0 _ rfl; have e1 := hw 1 _ rfl
      rw [Nat.add_zero] at e0
      have HST := Lib.hid (show inN ps grp (k + 1) = if x.t ≠ 0 ∧ x.g = grp then inN ps grp k ++ [(k : Int)] else inN ps grp k from by rw [inN, hx])
      clear hw hx
      obtain ⟨xt, xg, xs⟩ := x
      simp only at e0 e1 HST
      rcases (show xt = 0 ∨ (xt ≠ 0 ∧ xg ≠ grp) ∨ (xt ≠ 0 ∧ xg = grp) from by omega) with rfl | ⟨h1, h2⟩ | ⟨h1, rfl⟩
      · go_wp2
        exact ⟨⟨k + 1, A, n, c', hlt, by go_num, rfl, by rw [HST.out, if_neg (by simp)]; exact HO.out, HNW.out⟩, by simp [intOf]; omega⟩
      · have b1 : (xt != 0) = true := by simpa using h1
        have b2 : (xg == grp) = false := by simpa using h2
        have HH := Lib.hid h2; clear h2
        go_wp2
        exact ⟨⟨k + 1, A, n, c', hlt, by go_num, rfl, by rw [HST.out, if_neg (by simp [HH.out])]; exact HO.out, HNW.out⟩, by simp [intOf]; omega⟩
      · have b1 : (xt != 0) = true := by simpa using h1
        go_wp2_with (at_builtin; refine wpList_app1_own T41 _ _ rfl rfl rfl rfl HO.out rfl (by unfold maxLen; omega) HNW.out.size ?_; intro A' c2 w3 o3 g3 e3; have O3 := Lib.hid o3; have G3 := Lib.hid g3; clear o3 g3 e3)
        refine ⟨⟨k + 1, A', n + 1, c2, hlt, by go_num, rfl, by rw [HST.out, if_pos ⟨h1, rfl⟩, List.map_append]; exact O3.out, ?_⟩, by simp [intOf]; omega⟩
        exact nw_of_gb HNW.out G3.out HO.out.blk
    · have hk' : k = N := by omega
      go_wp2
      go_ret
      rw [hk'] at HO
      exact ⟨A, n, c', rfl, HO.out, HNW.out⟩
theorem eq_snocI {α} (xs ys : List α) (k : Nat) (h1 : k < xs.length) (h2 : k < ys.length) (h : xs.take k = ys.take k) (he : xs[k] = ys[k]) : xs.take (k + 1) = ys.take (k + 1) := by
  rw [List.take_succ_eq_append_getElem h1, List.take_succ_eq_append_getElem h2, h, he]
def sameI (xs ys : List Int) : Bool := decide (xs = ys)
theorem sameI_self (xs : List Int) : sameI xs xs = true := by unfold sameI; simp
set_option maxHeartbeats 1000000 in
theorem samei_any (A A' : Option Addr) (n m c c' : Nat) (xs ys : List Int) (B : Nat) (w : World) (hm : n ≤ 9223372036854775807) (hm' : m ≤ 9223372036854775807)
    (hx : Rd w B 1 A n (xs.map iv)) (hy : Rd w B 1 A' m (ys.map iv)) :
    Calls Try.prog 22 #[.slice A n c, .slice A' m c'] w (Ret (.bool (sameI xs ys)) w) := by
  have hlx : xs.length = n := by have := hx.1; simpa using this
  have hly : ys.length = m := by have := hy.1; simpa using this
  by_cases hl : n = m
  · subst hl
    have Hlx := Lib.hid hlx; clear hlx
    have Hly := Lib.hid hly; clear hly
    go_enter Try.func22, Try.ntmps22
    go_wp2
    go_loopw [5] (fun i wr => ∃ k : Nat, k ≤ n ∧ i = .int .i64 k ∧ Hid (xs.take k = ys.take k) ∧ ∃ n, wr = w.drewN n) (fun i _ => n - (intOf i).toNat)
    case atStart => exact ⟨0, Nat.zero_le _, rfl, Lib.hid rfl, 0, rfl⟩
    case round =>
      obtain ⟨k, hk, rfl, ht, nd, rfl⟩ := hrel
      by_cases hlt : k < n
      · obtain ⟨b, off, rfl, hz, hcu⟩ := hx.atI hlt
        obtain ⟨b', off', rfl, hz', hcu'⟩ := hy.atI hlt
        by_cases he : xs[k] = ys[k]
        · have hne : ((xs[k] : Int) != (ys[k] : Int)) = false := by rw [he]; simp
          have He := Lib.hid he; clear he
          go_wp2
          go_quiet (fail)
          go_wp2
          go_roundw
          case rel => exact ⟨k+1, by omega, by go_num, Lib.hid (eq_snocI _ _ _ _ _ ht.out He.out), _, by first | rfl | simp⟩
          case measure => simp [intOf]; omega
        · have hne : ((xs[k] : Int) != (ys[k] : Int)) = true := by simpa using he
          have hno : sameI xs ys = false := by
            unfold sameI
            rw [decide_eq_false_iff_not]
            intro e
            apply he
            subst e
            rfl
          have He := Lib.hid he; clear he
          have Hno := Lib.hid hno; clear hno
          go_wp2
          go_quiet (fail)
          go_wp2
          go_ret
          exact ⟨by rw [Hno.out]; rfl, gb_drewN (gb_drewN (Nw.refl w) _) _⟩
      · have hyes : sameI xs ys = true := by
          have : k = n := by omega
          unfold sameI
          rw [decide_eq_true_iff]
          have h := ht.out
          rwa [List.take_of_length_le (by rw [Hlx.out]; omega), List.take_of_length_le (by rw [Hly.out]; omega)] at h
        have Hyes := Lib.hid hyes; clear hyes
        go_wp2
        go_ret
        exact ⟨by rw [Hyes.out]; rfl, gb_drewN (Nw.refl w) _⟩
  · have hno : sameI xs ys = false := by
      unfold sameI
      rw [decide_eq_false_iff_not]
      intro e
      apply hl
      rw [← hlx, ← hly, e]
    have hne : ((n : Int) != (m : Int)) = true := by rw [bne_iff_ne]; omega
    have Hno := Lib.hid hno; clear hno
    have Hl := Lib.hid hl; clear hl
    clear hlx hly
    go_enter Try.func22, Try.ntmps22
    go_wp2
    go_ret
    exact ⟨by rw [Hno.out]; rfl, Nw.refl w⟩
end Go.Proofs.Ytfpllllglpjipaa

