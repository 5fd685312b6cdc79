/- What the reference's last and New return. -/
import Derived.Test.YtblkdmnfmnbbeaaP
namespace Go.Proofs.Ytblkdmnfmnbbeaa
open Go.RowKit Go.BW

theorem last_row {la lt : List UInt8} {n : Nat} (hl : lt.length = n * 64) (hn : 0 < n) : lastB (la ++ lt) = secAt lt (n - 1) := by
  unfold lastB secAt
  rw [List.length_append, List.drop_append, List.drop_of_length_le (by omega), List.nil_append, show la.length + lt.length - 64 - la.length = (n - 1) * 64 by omega, List.take_of_length_le (by rw [List.length_drop]; omega)]
set_option maxHeartbeats 1000000 in
theorem last_any {w : World} (x : RB) (hx : Own w 0 27 64 x.A x.n x.c (x.lt.map bv)) (hn : x.n ≤ maxLen) : Calls Try.prog 30 #[rv x] w (Ret (.agg ((lastR x).map bv).toArray) w) := by
  unfold maxLen at hn
  obtain ⟨w1, hw1⟩ : ∃ w1, w1 = w.alloc (.cells (rc x).toArray 61) := ⟨_, rfl⟩
  have n1 : Nw w w1 := by rw [hw1]; exact World.grownBy_alloc w _ none
  have OB := Lib.hid (show Obj1 w1 w.heap.size 61 (rc x).toArray from by rw [hw1]; exact Obj1.new w _ _)
  have N1 := Lib.hid n1
  have HW := Lib.hid hw1
  have HX := Lib.hid hx
  have hlt : x.lt.length = x.n * 64 := by have := hx.len; simpa using this
  have HLT := Lib.hid hlt
  clear hx hlt n1 hw1
  obtain ⟨i0, hi0, hz0, _⟩ := T22.info
  rw [z64_cells] at hz0
  have HZ := Lib.hid hz0; clear hz0
  have HI := Lib.hid hi0; clear hi0
  obtain ⟨s, hs⟩ : ∃ s, lastR x = s := ⟨_, rfl⟩
  have hls : s.length = 64 := by
    rw [← hs]
    refine lastB_64 ?_
    rw [List.length_append, x.hl]
    omega
  have LS := Lib.hid hls
  rw [hs]
  have HS := Lib.hid hs
  clear hls hs
  unfold rv
  have arms : ∀ (g1 : Nat) (w2 w3 : World), Nw w1 w2 → w1.heap.size ≤ g1 → w2.grownBy w3 (some g1) → Nw w w3 := fun _ _ _ a b c => nw_of_gb (gb_trans N1.out a) c (by intro y e; injection e with e; have := N1.out.size; omega)
  have ARMS := Lib.hid arms; clear arms
  rcases Nat.eq_zero_or_pos x.n with h0 | h0
  · have e : x.la = s := by
      have h1 := HLT.out
      rw [h0, Nat.zero_mul] at h1
      have h2 : x.lt = [] := List.eq_nil_of_length_eq_zero h1
      rw [← HS.out]
      unfold lastR
      rw [h2, List.append_nil, last_self x.hl]
    have HE := Lib.hid e; clear e
    have hb0 : ((x.n : Int) > 0) = False := by simp; omega
    go_enter Try.func30, Try.ntmps30
    go_wp2_with (first | (rw [← HW.out]; refine wpList_alloc (size := 64) 27 rfl rfl w1.heap.size i0 HI.out HZ.out (by kernel_rfl) (Nat.le_refl _) ?_; intro g1 w2 a1 a2 a3; have A1 := Lib.hid a1; have A2 := Lib.hid a2; have A3 := Lib.hid a3; have OB2 := Lib.hid (OB.out.nw a2); obtain ⟨k0, k1, _⟩ := obj_at OB2.out; clear a1 a2 a3) |
      (refine wpList_load_agg 27 _ rfl rfl rfl (s.map bv) (by rw [← HE.out]; exact (obj_at OB2.out).2.2) _ Try.underlying27 rfl (i27.trans (by rw [List.length_map, LS.out])) ?_) |
      (refine wpList_store_own (cs := s.map bv) 27 _ _ rfl rfl rfl rfl rfl (i27.trans (by rw [List.length_map, LS.out])) (bv_one _) A1.out (by rw [List.length_map, LS.out]; decide) ?_; intro w3 s1 s2; have o3 := Own.row1 s1; rw [splice_all _ _ (by rw [List.length_map, LS.out, A1.out.len])] at o3))
    try simp only [Exit.inBlock, Exit.then]
    refine bodyPost_ret (results_cell_row rfl _ _ _ _ _ _ _ rfl o3 Try.underlying27 rfl (i27.trans (by rw [List.size_toArray, List.length_map, LS.out]))) rfl ?_
    exact ⟨rfl, ARMS.out _ _ _ A2.out A3.out s2⟩
  · obtain ⟨a, hA, _⟩ := HX.out.some_ h0
    have hrow : ∀ w', Nw w1 w' → ∀ j u, (s.map bv)[j]? = some u → w'.cell? ⟨a, (x.n - 1) * 64 + j, none⟩ = some u := by
      intro w' k
      have h1 := HX.out.nw (gb_trans N1.out k)
      rw [hA] at h1
      rw [← HS.out, show lastR x = secAt x.lt (x.n - 1) from last_row HLT.out h0]
      exact secAt_row h1 (by omega)
    have HROW := Lib.hid hrow; clear hrow
    have bw : IntKind.i64.wrap ((x.n : Int) - 1) = ((x.n - 1 : Nat) : Int) := by rw [IntWalk.i64_in _ (by omega)]; omega
    have bw2 : (x.n : Int) - 1 = ((x.n - 1 : Nat) : Int) := by omega
    have b2 : x.n - 1 < x.n := by omega
    have hb0 : decide ((x.n : Int) > 0) = true := by simp; omega
    go_enter Try.func30, Try.ntmps30
    go_wp2_with (first | (rw [← HW.out]; refine wpList_alloc (size := 64) 27 rfl rfl w1.heap.size i0 HI.out HZ.out (by kernel_rfl) (Nat.le_refl _) ?_; intro g1 w2 a1 a2 a3; have A1 := Lib.hid a1; have A2 := Lib.hid a2; have A3 := Lib.hid a3; have OB2 := Lib.hid (OB.out.nw a2); obtain ⟨k0, k1, _⟩ := obj_at OB2.out; rw [hA] at k0; clear a1 a2 a3) |
      (refine wpList_load_agg 27 _ rfl rfl rfl (s.map bv) (HROW.out _ A2.out) _ Try.underlying27 rfl (i27.trans (by rw [List.length_map, LS.out])) ?_) |
      (refine wpList_store_own (cs := s.map bv) 27 _ _ rfl rfl rfl rfl rfl (i27.trans (by rw [List.length_map, LS.out])) (bv_one _) A1.out (by rw [List.length_map, LS.out]; decide) ?_; intro w3 s1 s2; have o3 := Own.row1 s1; rw [splice_all _ _ (by rw [List.length_map, LS.out, A1.out.len])] at o3))
    try simp only [Exit.inBlock, Exit.then]
    refine bodyPost_ret (results_cell_row rfl _ _ _ _ _ _ _ rfl o3 Try.underlying27 rfl (i27.trans (by rw [List.size_toArray, List.length_map, LS.out]))) rfl ?_
    exact ⟨rfl, ARMS.out _ _ _ A2.out A3.out s2⟩
end Go.Proofs.Ytblkdmnfmnbbeaa

