/- What the reference's Now and May return. -/
import Derived.Test.YtblkdmnfmnbbeaaS
namespace Go.Proofs.Ytblkdmnfmnbbeaa
open Go.RowKit Go.BW

theorem i61 : (Try.prog.info? 61).map (·.size) = some 66 := by kernel_rfl
theorem RRep.at {w : World} {g : Nat} {M : MB} {F : List Nat} (h : RRep w g M F) {i : Nat} {b : List UInt8 × Bool} (hb : M[i]? = some b) : ∃ l c xs x, RR w g xs l c ∧ M = xs.map abs ∧ F = g :: l :: xs.flatMap blkOf ∧ xs[i]? = some x ∧ abs x = b ∧ xs.length = M.length := by
  obtain ⟨l, c, xs, h, hM, hF⟩ := h
  have hb' := hb
  rw [hM, List.getElem?_map] at hb'
  obtain ⟨x, hx, e⟩ := Option.map_eq_some_iff.1 hb'
  exact ⟨l, c, xs, x, h, hM, hF, hx, e, by rw [hM, List.length_map]⟩
theorem RR.nw {w w' : World} {g l c : Nat} {xs : List RB} (h : RR w g xs l c) (k : Nw w w') : RR w' g xs l c := ⟨h.obj.nw k, h.row.nw k, fun x hx => ⟨(h.sub x hx).1.nw k, (h.sub x hx).2⟩⟩
theorem rnow_bad {w : World} {g : Nat} {M : MB} {F : List Nat} (h : RRep w g M F) (n : Int) (hn : Bad M n) : Calls Try.prog 23 #[pv g, .int .i64 n] w (Ret (nv (z64b, false)) w) := by
  obtain ⟨l, c, xs, h, hM, _⟩ := h
  have hi := fun (w1 : World) (n1 : Nw w w1) => is_any (h.obj.nw n1) n
  rw [show inR n xs.length = false from by unfold inR; unfold Bad at hn; rw [hM, List.length_map] at hn; simp; omega] at hi
  clear h hn hM
  unfold pv at hi ⊢
  unfold nv
  have HI := Lib.hid hi; clear hi
  obtain ⟨i0, hi0, hz0, _⟩ := T22.info
  rw [z64_cells] at hz0
  have HZ := Lib.hid hz0; clear hz0
  have H0 := Lib.hid hi0; clear hi0
  go_enter Try.func23, Try.ntmps23
  go_wp2_with (first | (refine wpList_alloc (size := 64) 27 rfl rfl w.heap.size i0 H0.out HZ.out (by kernel_rfl) (Nat.le_refl _) ?_; intro g1 w1 a1 a2 a3; have A1 := Lib.hid a1; clear a1) | (refine (HI.out w1 a2).mono ?_; rintro e w2 ⟨rfl, rfl⟩) |
    (refine wpList_build0 27 rfl rfl i0 (z64b.map bv).toArray H0.out HZ.out 64 5 Try.underlying27 (by kernel_rfl) ?_) |
    (refine wpList_store_own (cs := z64b.map bv) 27 _ _ rfl rfl rfl rfl rfl (by kernel_rfl) (bv_one _) A1.out (by decide) ?_; intro w3 s1 s2))
  have o3 := Own.row1 s1
  rw [splice_all _ _ (by kernel_rfl)] at o3
  try simp only [Exit.inBlock, Exit.then]
  refine bodyPost_ret (Go.Proofs.Ytblkdmnfmnbbeaa.res_cell_tmp rfl _ _ _ _ _ _ rfl o3 Try.underlying27 rfl (by kernel_rfl)) rfl ?_
  exact ⟨rfl, nw_of_gb a2 s2 (by intro x e; injection e with e; omega)⟩
set_option maxHeartbeats 2000000 in
theorem rnow_in {w : World} {g : Nat} {M : MB} {F : List Nat} (h : RRep w g M F) (i : Nat) (b : List UInt8 × Bool) (hb : M[i]? = some b) : Calls Try.prog 23 #[pv g, .int .i64 i] w (Ret (nv (nowOf b)) w) := by
  obtain ⟨l, c, xs, x, h, hM, _, hx, hab, hlen⟩ := h.at hb
  have hiN := (List.getElem?_eq_some_iff.1 hx).1
  have hi := fun (w1 : World) (n1 : Nw w w1) => is_any (h.obj.nw n1) (i : Int)
  rw [show inR i xs.length = true from by unfold inR; simp; omega] at hi
  obtain ⟨N, hN⟩ : ∃ N, xs.length = N := ⟨_, rfl⟩
  have HC := Lib.hid (show ∀ w', Nw w w' → w'.cell? ⟨g, 0, none⟩ = some (.slice (some ⟨l, 0, none⟩) N c) ∧ w'.cell? ⟨l, i * 66 + 65, none⟩ = some (.bool x.op) ∧ ∀ j u, (rc x)[j]? = some u → w'.cell? ⟨l, i * 66 + j, none⟩ = some u from fun w' k => by
    refine ⟨?_, (cell_of (h.nw k).row hx).2.1, (h.nw k).row.atL rc_len (by omega) hx⟩
    rw [(h.nw k).obj.cell 0, ← hN]; rfl)
  rw [hN] at hiN
  have HL := Lib.hid (fun (w' : World) (k : Nw w w') => last_any x ((h.nw k).sub x (List.mem_of_getElem? hx)).1 ((h.nw k).sub x (List.mem_of_getElem? hx)).2)
  obtain ⟨s, hs⟩ : ∃ s, lastR x = s := ⟨_, rfl⟩
  have hls : s.length = 64 := by
    rw [← hs]
    refine lastB_64 ?_
    rw [List.length_append, x.hl]
    omega
  have LS := Lib.hid hls
  rw [hs] at HL
  obtain ⟨op, hop⟩ : ∃ op, x.op = op := ⟨_, rfl⟩
  obtain ⟨R, hR⟩ : ∃ R, nv (nowOf b) = R := ⟨_, rfl⟩
  have hR2 : R = if op then nv (z64b, false) else nv (s, true) := by
    rw [← hR, ← hab, ← hs, ← hop]
    unfold nowOf abs lastR
    cases x.op <;> rfl
  rw [hR]
  rw [hop] at HC
  have HR2 := Lib.hid hR2
  clear h hx hab hM hlen hb hN hls hs hop hR hR2
  unfold rv at HL
  unfold pv at hi ⊢
  have HI := Lib.hid hi; clear hi
  obtain ⟨i0, hi0, hz0, _⟩ := T22.info
  rw [z64_cells] at hz0
  have HZ := Lib.hid hz0; clear hz0
  have H0 := Lib.hid hi0; clear hi0
  rcases op with _ | _
  · go_enter Try.func23, Try.ntmps23
    go_wp2_with (first | (refine (HL.out w1 a2).mono ?_; rintro e w2 ⟨rfl, n2⟩; have A2 := Lib.hid (A1.out.nw n2); have N2 := Lib.hid n2; clear n2) |
      (refine wpList_alloc (size := 64) 27 rfl rfl w.heap.size i0 H0.out HZ.out (by kernel_rfl) (Nat.le_refl _) ?_; intro g1 w1 a1 a2 a3; have A1 := Lib.hid a1; clear a1) | (refine (HI.out w1 a2).mono ?_; rintro e w2 ⟨rfl, rfl⟩; obtain ⟨c0, c1, _⟩ := HC.out w1 a2) |
      (refine wpList_load_agg 61 _ rfl rfl rfl (rc x) (HC.out w1 a2).2.2 _ Try.underlying61 rfl (i61.trans (by rw [rc_len])) ?_) |
      (refine wpList_store_own (cs := s.map bv) 27 _ _ rfl rfl rfl rfl rfl (i27.trans (by rw [List.length_map, LS.out])) (bv_one _) A2.out (by rw [List.length_map, LS.out]; decide) ?_; intro w3 s1 s2))
    have o3 := Own.row1 s1
    rw [splice_all _ _ (by rw [List.length_map, LS.out, A2.out.len])] at o3
    try simp only [Exit.inBlock, Exit.then]
    refine bodyPost_ret (Go.Proofs.Ytblkdmnfmnbbeaa.res_cell_tmp rfl _ _ _ _ _ _ rfl o3 Try.underlying27 rfl (i27.trans (by rw [List.size_toArray, List.length_map, LS.out]))) rfl ?_
    rw [HR2.out]
    exact ⟨rfl, nw_of_gb (gb_trans a2 N2.out) s2 (by intro x e; injection e with e; omega)⟩
  · go_enter Try.func23, Try.ntmps23
    go_wp2_with (first |
      (refine wpList_alloc (size := 64) 27 rfl rfl w.heap.size i0 H0.out HZ.out (by kernel_rfl) (Nat.le_refl _) ?_; intro g1 w1 a1 a2 a3; have A1 := Lib.hid a1; clear a1) | (refine (HI.out w1 a2).mono ?_; rintro e w2 ⟨rfl, rfl⟩; obtain ⟨c0, c1, _⟩ := HC.out w1 a2) |
      (refine wpList_build0 27 rfl rfl i0 (z64b.map bv).toArray H0.out HZ.out 64 5 Try.underlying27 (by kernel_rfl) ?_) |
      (refine wpList_store_own (cs := z64b.map bv) 27 _ _ rfl rfl rfl rfl rfl (by kernel_rfl) (bv_one _) A1.out (by decide) ?_; intro w3 s1 s2))
    have o3 := Own.row1 s1
    rw [splice_all _ _ (by kernel_rfl)] at o3
    try simp only [Exit.inBlock, Exit.then]
    refine bodyPost_ret (Go.Proofs.Ytblkdmnfmnbbeaa.res_cell_tmp rfl _ _ _ _ _ _ rfl o3 Try.underlying27 rfl (by kernel_rfl)) rfl ?_
    rw [HR2.out]
    exact ⟨rfl, nw_of_gb a2 s2 (by intro x e; injection e with e; omega)⟩
end Go.Proofs.Ytblkdmnfmnbbeaa

