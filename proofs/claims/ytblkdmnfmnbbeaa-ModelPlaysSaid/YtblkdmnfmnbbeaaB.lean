/- What the model's the, Len and now return, on any model that lies in memory. -/
import Derived.Test.YtblkdmnfmnbbeaaA
namespace Go.Proofs.Ytblkdmnfmnbbeaa
open Go.RowKit Go.BW

theorem len_any {w : World} {g l N c : Nat} (h : Obj1 w g 52 #[.slice (some ⟨l, 0, none⟩) N c]) : Calls Try.prog 16 #[pv g] w fun e w' => e = .returned (.int .i64 N) ∧ w = w' := by
  have hc := h.cell 0
  rw [show (#[Value.slice (some ⟨l, 0, none⟩) N c])[0]? = some (.slice (some ⟨l, 0, none⟩) N c) from rfl] at hc
  unfold pv
  go_enter Try.func16, Try.ntmps16
  go_wp2
  go_ret
  exact ⟨rfl, rfl⟩

theorem the_none {w : World} {g l N c : Nat} (h : Obj1 w g 52 #[.slice (some ⟨l, 0, none⟩) N c]) (n : Int) (hn : n < 0 ∨ (N : Int) ≤ n) : Calls Try.prog 26 #[pv g, .int .i64 n] w fun e w' => e = .returned (.pointer none) ∧ w = w' := by
  have hc := h.cell 0
  rw [show (#[Value.slice (some ⟨l, 0, none⟩) N c])[0]? = some (.slice (some ⟨l, 0, none⟩) N c) from rfl] at hc
  unfold pv
  by_cases h0 : n < 0
  · go_enter Try.func26, Try.ntmps26
    go_wp2
    go_ret
    exact ⟨rfl, rfl⟩
  · have h1 : (N : Int) ≤ n := by omega
    go_enter Try.func26, Try.ntmps26
    go_wp2
    go_ret
    exact ⟨rfl, rfl⟩
theorem the_some {w : World} {g l N c : Nat} (h : Obj1 w g 52 #[.slice (some ⟨l, 0, none⟩) N c]) (i p : Nat) (hn : i < N) (hp : w.cell? ⟨l, i, none⟩ = some (pv p)) : Calls Try.prog 26 #[pv g, .int .i64 i] w fun e w' => e = .returned (pv p) ∧ w = w' := by
  have hc := h.cell 0
  rw [show (#[Value.slice (some ⟨l, 0, none⟩) N c])[0]? = some (.slice (some ⟨l, 0, none⟩) N c) from rfl] at hc
  unfold pv at *
  have b1 : decide ((i : Int) < 0) = false := decide_eq_false (by omega)
  have b2 : decide ((N : Int) ≤ (i : Int)) = false := decide_eq_false (by omega)
  have b3 : decide (N ≤ i) = false := decide_eq_false (by omega)
  go_enter Try.func26, Try.ntmps26
  go_wp2
  go_ret
  exact ⟨rfl, rfl⟩

/-- the newest of some sectors, laid end to end -/
def lastB (bs : List UInt8) : List UInt8 := bs.drop (bs.length - 64)
theorem Own.row1 {w : World} {base size g : Nat} {e : TypeId} {xs : List Value} (h : Own w base e size (some ⟨g, 0, none⟩) 1 1 xs) : Obj1 w g e xs.toArray := by
  rcases h.2 with ⟨h', _⟩ | ⟨g', cap, cur, hv, hb, hg, hnc, hcm, hcs, htake⟩
  · simp at h'
  · simp only [Value.slice.injEq, Option.some.injEq, Addr.mk.injEq, and_true, true_and] at hv
    obtain ⟨rfl, rfl⟩ := hv
    have : cur.toList = xs := by rw [← htake, List.take_of_length_le (by rw [Array.length_toList, hcs]; omega)]
    unfold Obj1
    rw [← this]
    exact hg
theorem BlkAt.load {w : World} {p r n c : Nat} {b : List UInt8 × Bool} (h : BlkAt w p r b n c) : ∀ j u, ((lastB b.1).map bv)[j]? = some u → w.cell? ⟨r, (n - 1) * 64 + j, none⟩ = some u := by
  intro j u hu
  have hl : b.1.length = n * 64 := by have := h.row.len; simpa using this
  have hn := h.pos
  unfold lastB at hu
  rw [List.map_drop, List.getElem?_drop] at hu
  have hlt := (List.getElem?_eq_some_iff.1 hu).1
  rw [List.length_map] at hlt
  obtain ⟨u2, h1, h2, _⟩ := h.row.cellN (k := b.1.length - 64 + j) (by omega)
  rw [hu] at h1
  injection h1 with h1
  subst h1
  rw [← h2]
  congr 2
  omega
theorem lastB_len {w : World} {p r n c : Nat} {b : List UInt8 × Bool} (h : BlkAt w p r b n c) : (lastB b.1).length = 64 := by
  have hl : b.1.length = n * 64 := by have := h.row.len; simpa using this
  have hn := h.pos
  unfold lastB
  rw [List.length_drop]
  omega
theorem i27 : (Try.prog.info? 27).map (·.size) = some 64 := by kernel_rfl
theorem now_any {w : World} {p r n c : Nat} {b : List UInt8 × Bool} (h : BlkAt w p r b n c) (hK : n ≤ 1000) : Calls Try.prog 27 #[pv p] w (Ret (.agg ((lastB b.1).map bv).toArray) w) := by
  have hc : ∀ w', Nw w w' → w'.cell? ⟨p, 0, none⟩ = some (.slice (some ⟨r, 0, none⟩) n c) := fun w' h2 => (h.obj.nw h2).cell 0
  have hn := h.pos
  have HL := Lib.hid (lastB_len h)
  have HB := Lib.hid h; clear h
  unfold pv
  go_enter Try.func27, Try.ntmps27
  go_wp2
  generalize hW : w.alloc _ = w1
  obtain ⟨zs, o1⟩ : ∃ zs, Own w1 w.heap.size 27 64 (some ⟨w.heap.size, 0, none⟩) 1 1 zs := by rw [← hW]; exact ⟨_, World.ownsRow_lit w _ 1 (Nat.le_refl _) (by unfold maxLen; omega) rfl⟩
  have n1 : Nw w w1 := by rw [← hW]; exact World.grownBy_alloc w _ none
  clear hW
  have O1 := Lib.hid o1; clear o1
  have b1 : IntKind.i64.wrap ((n : Int) - 1) = ((n - 1 : Nat) : Int) := by rw [IntWalk.i64_in _ (by omega)]; omega
  have b2 : n - 1 < n := by omega
  refine wp_region_held (S := (fun w' => Nw w w')) (by kernel_rfl) ?_
  change wpAnyH _ _ _ _ _ _ _ _ (World.drew w1)
  refine held_seg' (l := [0, 1, 2, 3, 4, 5, 6, 7, 8, 9, 10, 11]) (fuel := 1) rfl (by kernel_rfl) (by kernel_rfl) (by simp only [List.filterMap_cons, List.filterMap_nil, List.getElem?_toArray, List.getElem?_cons_succ, List.getElem?_cons_zero]; rfl) (fun _ _ d _ _ h => by cases d <;> exact h) (gb_drew n1) ?_
  iterate 11 (refine wpYield_step rfl (fun K hK => ?_)
              apply Exists.intro
              refine ⟨fun w' hw' => ?_, ?_⟩
              · (go_simp; try with_reducible rfl)
              go_simp
              refine hK _ ?_
              clear hK K)
  refine wpYield_load_agg 27 _ rfl rfl rfl _ (fun w' hw' j u hu => (HB.out.eqb (hw'.block _ HB.out.lt.1 (by simp)) (hw'.block _ HB.out.lt.2 (by simp))).load j u hu) _ Try.underlying27 rfl (i27.trans (by rw [List.length_map, HL.out])) ?_
  refine wpYield_nil ?_
  refine held_eff 12 rfl (by kernel_rfl) rfl (fun K hK => ?_)
  obtain ⟨w2, hrun, o2, g2⟩ := run_store_own (P := Try.prog) (cs := (lastB b.1).map bv) (off := 0) 27 (v := .agg ((lastB b.1).map bv).toArray) rfl (i27.trans (by rw [List.length_map, HL.out])) (bv_one _) (w := w1.drew) O1.out (by rw [List.length_map, HL.out]; omega)
  refine wp_ran_skip (run_exec_store 27 _ _ rfl rfl rfl hrun) ?_
  have n2 : Nw w w2 := nw_of_gb (gb_drew n1) g2 (by intro g e; injection e with e; omega)
  refine hK _ _ ⟨n2, ?_⟩
  clear hK K
  refine wpAnyH_done (by kernel_rfl) ?_ _
  have o3 := Own.row1 o2
  rw [splice_all _ _ (by rw [List.length_map, HL.out, O1.out.len])] at o3
  go_wp2
  refine bodyPost_ret (results_cell_row rfl _ _ _ _ _ _ _ rfl o3 Try.underlying27 rfl (i27.trans (by rw [List.size_toArray, List.length_map, HL.out]))) rfl ?_
  exact ⟨rfl, n2⟩
end Go.Proofs.Ytblkdmnfmnbbeaa

