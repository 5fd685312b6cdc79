/- What vmap's New, Holder and In return. -/
import Derived.Test.YtfpllllglpjipaaC
namespace Go.Proofs.Ytfpllllglpjipaa
open Go.RowKit Go.BW

def numN (n : Int) : Nat := (min (max n 1) 96).toNat
theorem numN_b (n : Int) : 1 ≤ numN n ∧ numN n ≤ 96 := by unfold numN; omega
theorem held_zero : ∀ (N k : Nat), heldN (List.replicate N w0) k = []
  | _, 0 => rfl
  | N, k + 1 => by
    unfold heldN
    have ih := held_zero N k
    rw [List.getElem?_replicate]
    by_cases h : k < N
    · rw [if_pos h]; simp [w0]; exact ih
    · rw [if_neg h]; exact ih
def NewPost (N : Nat) (w : World) (e : Ending) (w' : World) : Prop := ∃ g, e = .returned (pv g) ∧ VRep w' g (List.replicate N w0) ∧ w.heap.size ≤ g ∧ Nw w w'
theorem made_zero (N : Nat) : (madeCells (wv w0).cells (N * 3)).toList = fl wc (List.replicate N w0) := by
  have h1 : ∀ N, fl wc (List.replicate N w0) = List.replicate (N * 3) (Value.int .i64 0) := by
    intro N
    induction N with
    | zero => rfl
    | succ N ih =>
      rw [List.replicate_succ, fl_cons, ih, Nat.succ_mul, Nat.add_comm, ← List.replicate_append_replicate]
      rfl
  rw [h1]
  apply List.ext_getElem?
  intro j
  by_cases hj : j < N * 3
  · have : j % 3 = 0 ∨ j % 3 = 1 ∨ j % 3 = 2 := by omega
    simp [madeCells, hj, wv, w0, Value.cells]
    rcases this with h | h | h <;> rw [h] <;> rfl
  · simp [madeCells, hj]
set_option maxHeartbeats 1000000 in
theorem new_any (n : Int) (w : World) : Calls Try.prog 10 #[.int .i64 n] w (NewPost (numN n) w) := by
  obtain ⟨N, hN⟩ : ∃ N, numN n = N := ⟨_, rfl⟩
  have hb := numN_b n
  rw [hN] at hb ⊢
  obtain ⟨hb1, hb2⟩ := hb
  rcases (show (n < 1 ∧ (1 : Int) = N) ∨ (96 < n ∧ (96 : Int) = N) ∨ (n = N ∧ 1 ≤ n ∧ n ≤ 96) from by unfold numN at hN; omega) with ⟨h1, e⟩ | ⟨h1, e⟩ | ⟨e, h1, h2⟩
  all_goals
    clear hN
    have EV := Lib.hid e; clear e
    go_enter Try.func10, Try.ntmps10
    go_wp2_with (first | (refine wpList_make T28 _ _ rfl rfl 0 .i64 .i64 _ _ N rfl rfl EV.out EV.out (by unfold maxLen; omega) (Nat.zero_le _) ?_; intro l w1 o1 n1 h1; have O1 := Lib.hid o1; have N1 := Lib.hid n1; have H1 := Lib.hid h1; clear o1 n1 h1) |
      (refine wpList_mk 54 rfl rfl ?_; obtain ⟨w2, hw2⟩ : ∃ w2, w2 = w1.alloc (.map #[] 0) := ⟨_, rfl⟩; rw [← hw2]; have N2 := Lib.hid (show Nw w w2 from by rw [hw2]; exact gb_alloc N1.out _); have M2 := Lib.hid (show MapAt w2 w1.heap.size [] from by rw [hw2]; exact MapAt.new w1); have O2 := Lib.hid (O1.out.nw (show Nw w1 w2 from by rw [hw2]; exact World.grownBy_alloc w1 _ none)); clear hw2))
    go_ret
    refine ⟨w2.heap.size, rfl, ⟨l, w1.heap.size, N, ?_, ?_, ?_, ?_⟩, N2.out.size, gb_alloc N2.out _⟩
    · rw [List.length_replicate]; exact Obj1.new w2 _ _
    · rw [List.length_replicate, ← made_zero]; exact O2.out.nw (World.grownBy_alloc w2 _ none)
    · unfold heldOf; rw [held_zero]; exact M2.out.nw (World.grownBy_alloc w2 _ none)
    · rw [List.length_replicate]; exact ⟨hb1, hb2⟩
theorem holder_any {w : World} {g : Nat} {ps : List Wh} (h : VRep w g ps) (x : Wh) : Calls Try.prog 20 #[pv g, wv x] w (Ret (.tuple #[.int .i64 ((look (heldOf ps) x).getD 0), .bool (look (heldOf ps) x).isSome]) w) := by
  obtain ⟨l, b, c, h1, h2, h3, h4⟩ := h
  obtain ⟨w1, hw1⟩ : ∃ w1, w1 = w.alloc (.cells #[.int .i64 x.t, .int .i64 x.g, .int .i64 x.s] 31) := ⟨_, rfl⟩
  have n1 : Nw w w1 := by rw [hw1]; exact World.grownBy_alloc w _ none
  have ob : Obj1 w1 w.heap.size 31 #[.int .i64 x.t, .int .i64 x.g, .int .i64 x.s] := by rw [hw1]; exact Obj1.new w _ _
  have hc0 : ∀ w', Nw w1 w' → w'.cell? ⟨w.heap.size, 0, none⟩ = some (.int .i64 x.t) := fun w' k => by rw [(ob.nw k).cell 0]; rfl
  have hc1 : ∀ w', Nw w1 w' → w'.cell? ⟨w.heap.size, 1, none⟩ = some (.int .i64 x.g) := fun w' k => by rw [(ob.nw k).cell 1]; rfl
  have hc2 : ∀ w', Nw w1 w' → w'.cell? ⟨w.heap.size, 2, none⟩ = some (.int .i64 x.s) := fun w' k => by rw [(ob.nw k).cell 2]; rfl
  have hc3 : ∀ w', Nw w1 w' → w'.cell? ⟨g, 1, none⟩ = some (.map (some b)) := fun w' k => by rw [(h1.nw (gb_trans n1 k)).cell 1]; rfl
  have HM := Lib.hid (fun (w' : World) (k : Nw w1 w') => h3.nw (gb_trans n1 k))
  have N1 := Lib.hid n1
  clear h1 h2 h3 h4 ob n1
  unfold pv wv
  obtain ⟨R, hR⟩ : ∃ R, Value.tuple #[.int .i64 ((look (heldOf ps) x).getD 0), .bool (look (heldOf ps) x).isSome] = R := ⟨_, rfl⟩
  obtain ⟨va, hva⟩ : ∃ va, (look (heldOf ps) x).getD 0 = va := ⟨_, rfl⟩
  obtain ⟨vb, hvb⟩ : ∃ vb, (look (heldOf ps) x).isSome = vb := ⟨_, rfl⟩
  rw [hR]
  rw [hva, hvb] at hR
  have HR := Lib.hid hR; have HA := Lib.hid hva; have HB := Lib.hid hvb
  clear hR hva hvb
  have HW := Lib.hid hw1; clear hw1
  go_enter Try.func20, Try.ntmps20
  go_wp2_with fail
  rw [← HW.out]
  refine wp_region_held (S := (fun w' => Nw w1 w')) (by kernel_rfl) ?_
  change wpAnyH _ _ _ _ _ _ _ _ (World.drew w1)
  refine held_seg' (l := [0, 1, 2, 3, 4, 5, 6, 7, 8, 9, 10]) (fuel := 0) rfl (by kernel_rfl) (by kernel_rfl) (by simp only [List.filterMap_cons, List.filterMap_nil, List.getElem?_toArray, List.getElem?_cons_succ, List.getElem?_cons_zero]; rfl) (fun _ _ d _ _ h => by cases d <;> exact h) (gb_drew (Nw.refl w1)) ?_
  iterate 5 (refine wpYield_step rfl (fun K hK => ?_)
             apply Exists.intro
             refine ⟨fun w' hw' => ?_, ?_⟩
             · (go_simp; try with_reducible rfl)
             go_simp
             refine hK _ ?_
             clear hK K)
  refine wpYield_look rfl _ _ rfl rfl rfl x rfl HM.out ?_
  rw [HA.out, HB.out]
  iterate 5 (refine wpYield_step rfl (fun K hK => ?_)
             apply Exists.intro
             refine ⟨fun w' hw' => ?_, ?_⟩
             · (go_simp; try with_reducible rfl)
             go_simp
             refine hK _ ?_
             clear hK K)
  refine wpYield_nil ?_
  refine wpAnyH_done (by kernel_rfl) ?_ _
  go_wp2
  go_ret2
  exact ⟨by rw [← HR.out]; rfl, gb_trans N1.out (gb_drew (Nw.refl w1))⟩
/-- the blocks of a group among the first k -/
def inN (ps : List Wh) (grp : Int) : Nat → List Int
  | 0 => []
  | k + 1 => match ps[k]? with
    | some x => if x.t ≠ 0 ∧ x.g = grp then inN ps grp k ++ [(k : Int)] else inN ps grp k
    | none => inN ps grp k
def inOf (ps : List Wh) (grp : Int) : List Int := inN ps grp ps.length
theorem inN_le (ps : List Wh) (grp : Int) : ∀ k, (inN ps grp k).length ≤ k
  | 0 => by simp [inN]
  | k + 1 => by
    have := inN_le ps grp k
    unfold inN
    split
    · split
      · simp; omega
      · omega
    · omega
set_option maxHeartbeats 4000000 in
theorem in_any {w : World} {g : Nat} {ps : List Wh} (h : VRep w g ps) (grp : Int) (hps : ∀ x ∈ ps, -9223372036854775808 ≤ x.t ∧ x.t ≤ 9223372036854775807) : Calls Try.prog 16 #[pv g, .int .i64 grp] w (RetOwn 3 1 ((inOf ps grp).map iv) w) := by
  obtain ⟨l, b, c, h1, h2, h3, h4⟩ := h
  obtain ⟨N, hN⟩ : ∃ N, ps.length = N := ⟨_, rfl⟩
  have h96 := h4.2
  unfold inOf
  have HRW := Lib.hid h2
  rw [hN] at h1 h96 HRW ⊢
  have hc := h1.cell 0
  rw [show (#[Value.slice (some ⟨l, 0, none⟩) N c, .map (some b)])[0]? = some (.slice (some ⟨l, 0, none⟩) N c) from rfl] at hc
  have HN := Lib.hid hN; clear hN h1 h2 h3 h4
  obtain ⟨i0, hi0, hz0, _⟩ := T28.info
  have HZ := Lib.hid hz0; clear hz0
  have H0 := Lib.hid hi0; clear hi0
  have HPS := Lib.hid hps; clear hps
  unfold pv
  go_enter Try.func16, Try.ntmps16
  go_wp2_with fail
  clear hc
  go_loopw [5, 13] (fun s i wr => ∃ (k : Nat) (A : Option Addr) (n c' : Nat), k ≤ N ∧ i = .int .i64 k ∧ s = .slice A n c' ∧ Own wr w.heap.size 3 1 A n c' ((inN ps grp k).map iv) ∧ Nw w wr) (fun _ i _ => N - (intOf i).toNat)
  case atStart => exact ⟨0, none, 0, 0, Nat.zero_le _, rfl, rfl, Own.nil, Nw.refl w⟩
  case round =>
    obtain ⟨k, A, n, c', hk, rfl, rfl, ho, hnw⟩ := hrel
    have hnl : (inN ps grp k).length = n := by have := ho.len; simpa using this
    have hnk := inN_le ps grp k
    rw [hnl] at hnk
    clear hnl
    have HO := Lib.hid ho; have HNW := Lib.hid hnw; clear ho hnw
    by_cases hlt : k < N
    · obtain ⟨x, hx⟩ : ∃ x, ps[k]? = some x := ⟨ps[k]'(by rw [HN.out]; exact hlt), List.getElem?_eq_getElem _⟩
      have hw := (HRW.out.nw HNW.out).atL wc_len (by omega) hx
      have e0 := hw 0 _ rfl; have e1 := hw 1 _ rfl; have e2 := hw 2 _ rfl
      rw [Nat.add_zero] at e0
      have HST := Lib.hid (show inN ps grp (k + 1) = if x.t ≠ 0 ∧ x.g = grp then inN ps grp k ++ [(k : Int)] else inN ps grp k from by rw [inN, hx])
      clear hw hx
      obtain ⟨xt, xg, xs⟩ := x
      simp only at e0 e1 e2 HST
      rcases (show xt = 0 ∨ (xt ≠ 0 ∧ xg ≠ grp) ∨ (xt ≠ 0 ∧ xg = grp) from by omega) with rfl | ⟨h1, h2⟩ | ⟨h1, rfl⟩
      · go_wp2_with (first | (refine wpList_alloc (size := 3) 31 rfl rfl w.heap.size i0 H0.out HZ.out rfl HNW.out.size ?_; intro y w1 a1 a2 a3; have A1 := Lib.hid a1; have A2 := Lib.hid a2; have A3 := Lib.hid a3; clear a1 a2 a3) |
          (refine wpList_store_own (cs := wc ⟨0, xg, xs⟩) 31 _ _ rfl rfl rfl rfl rfl i31 (wc_one _) A1.out (show 0 + 3 ≤ 1 * 3 by omega) ?_; intro w2 s1 s2; have o3 := Own.row1' s1; rw [splice_all _ _ (by rfl)] at o3; have d0 := o3.cell 0; have d1 := o3.cell 1; rw [show (wc ⟨0, xg, xs⟩).toArray[0]? = some (.int .i64 0) from rfl] at d0; rw [show (wc ⟨0, xg, xs⟩).toArray[1]? = some (.int .i64 xg) from rfl] at d1
           have N2 := Lib.hid (nw_of_gb A2.out s2 (by intro x e; injection e with e; have := A3.out; omega) : Nw wr w2); clear o3 s1 s2))
        exact ⟨⟨k + 1, A, n, c', hlt, by go_num, rfl, by rw [HST.out, if_neg (by simp)]; exact HO.out.nw N2.out, gb_trans HNW.out N2.out⟩, by simp [intOf]; omega⟩
      · have b1 : (xt != 0) = true := by simpa using h1
        have b2 : (xg == grp) = false := by simpa using h2
        have b3 : (xt == 0) = false := by simpa using h1
        go_wp2_with (first | (refine wpList_alloc (size := 3) 31 rfl rfl w.heap.size i0 H0.out HZ.out rfl HNW.out.size ?_; intro y w1 a1 a2 a3; have A1 := Lib.hid a1; have A2 := Lib.hid a2; have A3 := Lib.hid a3; clear a1 a2 a3) |
          (refine wpList_store_own (cs := wc ⟨xt, xg, xs⟩) 31 _ _ rfl rfl rfl rfl rfl i31 (wc_one _) A1.out (show 0 + 3 ≤ 1 * 3 by omega) ?_; intro w2 s1 s2; have o3 := Own.row1' s1; rw [splice_all _ _ (by rfl)] at o3; have d0 := o3.cell 0; have d1 := o3.cell 1; rw [show (wc ⟨xt, xg, xs⟩).toArray[0]? = some (.int .i64 xt) from rfl] at d0; rw [show (wc ⟨xt, xg, xs⟩).toArray[1]? = some (.int .i64 xg) from rfl] at d1
           have N2 := Lib.hid (nw_of_gb A2.out s2 (by intro x e; injection e with e; have := A3.out; omega) : Nw wr w2); clear o3 s1 s2))
        exact ⟨⟨k + 1, A, n, c', hlt, by go_num, rfl, by rw [HST.out, if_neg (by simp [h2])]; exact HO.out.nw N2.out, gb_trans HNW.out N2.out⟩, by simp [intOf]; omega⟩
      · have b1 : (xt != 0) = true := by simpa using h1
        have b3 : (xt == 0) = false := by simpa using h1
        go_wp2_with (first | (refine wpList_alloc (size := 3) 31 rfl rfl w.heap.size i0 H0.out HZ.out rfl HNW.out.size ?_; intro y w1 a1 a2 a3; have A1 := Lib.hid a1; have A2 := Lib.hid a2; have A3 := Lib.hid a3; clear a1 a2 a3) |
          (refine wpList_store_own (cs := wc ⟨xt, xg, xs⟩) 31 _ _ rfl rfl rfl rfl rfl i31 (wc_one _) A1.out (show 0 + 3 ≤ 1 * 3 by omega) ?_; intro w2 s1 s2; have o3 := Own.row1' s1; rw [splice_all _ _ (by rfl)] at o3; have d0 := o3.cell 0; have d1 := o3.cell 1; rw [show (wc ⟨xt, xg, xs⟩).toArray[0]? = some (.int .i64 xt) from rfl] at d0; rw [show (wc ⟨xt, xg, xs⟩).toArray[1]? = some (.int .i64 xg) from rfl] at d1
           have N2 := Lib.hid (nw_of_gb A2.out s2 (by intro x e; injection e with e; have := A3.out; omega) : Nw wr w2); clear o3 s1 s2) |
          (at_builtin; refine wpList_app1_own T41 _ _ rfl rfl rfl rfl (HO.out.nw N2.out) rfl (by unfold maxLen; omega) (gb_trans HNW.out N2.out).size ?_; intro A' c2 w3 o3 g3 e3; have O3 := Lib.hid o3; have G3 := Lib.hid g3; clear o3 g3 e3))
        refine ⟨⟨k + 1, A', n + 1, c2, hlt, by go_num, rfl, by rw [HST.out, if_pos ⟨h1, rfl⟩, List.map_append]; exact O3.out, ?_⟩, by simp [intOf]; omega⟩
        exact nw_of_gb (gb_trans HNW.out N2.out) G3.out HO.out.blk
    · have hk' : k = N := by omega
      go_wp2
      go_ret
      rw [hk'] at HO
      exact ⟨A, n, c', rfl, HO.out, HNW.out⟩
end Go.Proofs.Ytfpllllglpjipaa

