/- What the model's Now returns. -/
import Derived.Test.YtblkdmnfmnbbeaaI
import Derived.Laws.ResultCell
namespace Go.Proofs.Ytblkdmnfmnbbeaa
open Go.RowKit Go.BW

theorem res_cell_tmp {P : Program} {fn : Func} {p u : Tmp} {ty : TypeId} (h : fn.results = #[.cell p ty, .tmp u]) (tmps : Array Value) (w : World) (g : Nat) (t : TypeId) (cs : Array Value) (d : TypeDesc)
    (hp : tmps.getD p undef = .pointer (some ⟨g, 0, none⟩)) (hg : Obj1 w g t cs) (hu : P.underlying ty = some d) (hd : (match d with | .struct _ | .array _ _ => true | _ => false) = true) (hi : (P.info? ty).map (·.size) = some cs.size) :
    (results fn tmps).run P w = .ok (.tuple #[.agg cs, tmps.getD u undef]) w := by
  rw [results_cell_tmp h, hp]
  simp [asAddr, run_loadVar_row w g t ty cs (0, 0) d hg hu hd hi]
def nowOf (b : List UInt8 × Bool) : List UInt8 × Bool := if b.2 then (z64b, false) else (lastB b.1, true)
def nv (r : List UInt8 × Bool) : Value := .tuple #[.agg (r.1.map bv).toArray, .bool r.2]
theorem z64_cells : z64 = .agg (z64b.map bv).toArray := by kernel_rfl
set_option maxHeartbeats 1000000 in
theorem now2_bad {w : World} {g Z : Nat} {M : List (List UInt8 × Bool)} {F : List Nat} (h : Rep w g M F Z) (n : Int) (hn : Bad M n) :
    Calls Try.prog 22 #[pv g, .int .i64 n] w (Ret (nv (z64b, false)) w) := by
  obtain ⟨l, c, ho⟩ := h.obj
  have HT := fun (w1 : World) (n1 : Nw w w1) => the_none (ho.nw n1) n hn
  clear h ho
  have HN := Lib.hid hn; clear hn
  unfold pv at HT ⊢
  unfold nv
  have HT' := Lib.hid HT; clear HT
  obtain ⟨i0, hi0, hz0, _⟩ := T22.info
  rw [z64_cells] at hz0
  have HZ := Lib.hid hz0; clear hz0
  have HI := Lib.hid hi0; clear hi0
  go_enter Try.func22, Try.ntmps22
  go_wp2_with (first | (refine wpList_alloc (size := 64) 27 rfl rfl w.heap.size i0 HI.out HZ.out (by kernel_rfl) (Nat.le_refl _) ?_; intro g1 w1 a1 a2 a3; have A1 := Lib.hid a1; clear a1) | (refine (HT'.out w1 a2).mono ?_; rintro e w2 ⟨rfl, rfl⟩) |
    (refine wpList_build0 27 rfl rfl i0 (z64b.map bv).toArray HI.out HZ.out 64 5 Try.underlying27 (by kernel_rfl) ?_) |
    (refine wpList_store_own (cs := z64b.map bv) 27 _ _ rfl rfl rfl rfl rfl (by kernel_rfl) (bv_one _) A1.out (by decide) ?_; intro w3 s1 s2))
  have o3 := Own.row1 s1
  rw [splice_all _ _ (by kernel_rfl)] at o3
  try simp only [Exit.inBlock, Exit.then]
  refine bodyPost_ret (res_cell_tmp rfl _ _ _ _ _ _ rfl o3 Try.underlying27 rfl (by kernel_rfl)) rfl ?_
  exact ⟨rfl, nw_of_gb a2 s2 (by intro x e; injection e with e; omega)⟩
set_option maxHeartbeats 1000000 in
theorem now2_in {w : World} {g Z : Nat} {M : List (List UInt8 × Bool)} {F : List Nat} (h : Rep w g M F Z) (hZ : Z ≤ 1000) (i : Nat) (b : List UInt8 × Bool) (hb : M[i]? = some b) :
    Calls Try.prog 22 #[pv g, .int .i64 i] w (Ret (nv (nowOf b)) w) := by
  obtain ⟨l, c, ho⟩ := h.obj
  have hi := (List.getElem?_eq_some_iff.1 hb).1
  obtain ⟨p, r, b', n, cc, A⟩ := h.at ho hi
  have hbb : b' = b := by have := A.elt; rw [hb] at this; injection this with this; exact this.symm
  subst hbb
  have HA := Lib.hid A; clear A
  have HT := fun (w1 : World) (n1 : Nw w w1) => the_some (ho.nw n1) i p hi (n1.cell HA.out.cell (by simp))
  have hsm := HA.out.small
  have HW := fun (w1 : World) (n1 : Nw w w1) => now_any (HA.out.blk.nw n1) (by omega)
  have hcp1 : ∀ w', Nw w w' → w'.cell? ⟨p, 1, none⟩ = some (.bool b'.2) := fun w' h2 => (HA.out.blk.obj.nw h2).cell 1
  have HL := Lib.hid (lastB_len HA.out.blk)
  clear h ho hb hi
  unfold pv at HT HW ⊢
  have HT' := Lib.hid HT; clear HT
  have HW' := Lib.hid HW; clear HW
  obtain ⟨i0, hi0, hz0, _⟩ := T22.info
  rw [z64_cells] at hz0
  have HZ := Lib.hid hz0; clear hz0
  have HI := Lib.hid hi0; clear hi0
  obtain ⟨R, hR⟩ : ∃ R, nv (nowOf b') = R := ⟨_, rfl⟩
  rw [hR]
  have HR := Lib.hid hR; clear hR
  rcases hb2 : b'.2 with _ | _
  · rw [hb2] at hcp1
    have HB2 := Lib.hid hb2; clear hb2
    go_enter Try.func22, Try.ntmps22
    go_wp2_with (first | (refine wpList_alloc (size := 64) 27 rfl rfl w.heap.size i0 HI.out HZ.out (by kernel_rfl) (Nat.le_refl _) ?_; intro g1 w1 a1 a2 a3; have A1 := Lib.hid a1; clear a1) | (refine (HT'.out w1 a2).mono ?_; rintro e w2 ⟨rfl, rfl⟩) |
      (refine (HW'.out w1 a2).mono ?_; rintro e w2 ⟨rfl, n2⟩; have A2 := Lib.hid (A1.out.nw n2)) |
      (refine wpList_store_own (cs := (lastB b'.1).map bv) 27 _ _ rfl rfl rfl rfl rfl (i27.trans (by rw [List.length_map, HL.out])) (bv_one _) A2.out (by rw [List.length_map, HL.out]; decide) ?_; intro w3 s1 s2))
    have o3 := Own.row1 s1
    rw [splice_all _ _ (by rw [List.length_map, HL.out, A2.out.len])] at o3
    try simp only [Exit.inBlock, Exit.then]
    refine bodyPost_ret (res_cell_tmp rfl _ _ _ _ _ _ rfl o3 Try.underlying27 rfl (i27.trans (by rw [List.size_toArray, List.length_map, HL.out]))) rfl ?_
    have e : nowOf b' = (lastB b'.1, true) := by unfold nowOf; rw [HB2.out]; rfl
    rw [← HR.out, e]
    exact ⟨rfl, nw_of_gb (gb_trans a2 n2) s2 (by intro x e; injection e with e; omega)⟩
  · rw [hb2] at hcp1
    have HB2 := Lib.hid hb2; clear hb2
    go_enter Try.func22, Try.ntmps22
    go_wp2_with (first | (refine wpList_alloc (size := 64) 27 rfl rfl w.heap.size i0 HI.out HZ.out (by kernel_rfl) (Nat.le_refl _) ?_; intro g1 w1 a1 a2 a3; have A1 := Lib.hid a1; clear a1) | (refine (HT'.out w1 a2).mono ?_; rintro e w2 ⟨rfl, rfl⟩) |
      (refine wpList_build0 27 rfl rfl i0 (z64b.map bv).toArray HI.out HZ.out 64 5 Try.underlying27 (by kernel_rfl) ?_) |
      (refine wpList_store_own (cs := z64b.map bv) 27 _ _ rfl rfl rfl rfl rfl (by kernel_rfl) (bv_one _) A1.out (by decide) ?_; intro w3 s1 s2))
    have o3 := Own.row1 s1
    rw [splice_all _ _ (by kernel_rfl)] at o3
    try simp only [Exit.inBlock, Exit.then]
    refine bodyPost_ret (res_cell_tmp rfl _ _ _ _ _ _ rfl o3 Try.underlying27 rfl (by kernel_rfl)) rfl ?_
    have e : nowOf b' = (z64b, false) := by unfold nowOf; rw [HB2.out]; rfl
    rw [← HR.out, e]
    exact ⟨rfl, nw_of_gb a2 s2 (by intro x e; injection e with e; omega)⟩
end Go.Proofs.Ytblkdmnfmnbbeaa

