/- What vmap's Clone, New, Len, All, At, Holder and In return. -/
import Derived.Test.YtfpllllglpjipaaB
import Derived.Test.YtfpllllglpjipaaRes
import Derived.Lib.LazyBuf
namespace Go.Proofs.Ytfpllllglpjipaa
open Go.RowKit Go.BW

/-- the places that are taken among the first k, with their blocks -/
def heldN (ps : List Wh) : Nat → List (Wh × Int)
  | 0 => []
  | k + 1 => match ps[k]? with
    | some x => if x.t = 0 then heldN ps k else heldN ps k ++ [(x, (k : Int))]
    | none => heldN ps k
def heldOf (ps : List Wh) : List (Wh × Int) := heldN ps ps.length
/-- a map of places in memory -/
structure VR (w : World) (g : Nat) (ps : List Wh) (l b c : Nat) : Prop where
  obj : Obj1 w g 56 #[.slice (some ⟨l, 0, none⟩) ps.length c, .map (some b)]
  row : Own w 0 31 3 (some ⟨l, 0, none⟩) ps.length c (fl wc ps)
  map : MapAt w b (heldOf ps)
  pos : 1 ≤ ps.length ∧ ps.length ≤ 96
def VRep (w : World) (g : Nat) (ps : List Wh) : Prop := ∃ l b c, VR w g ps l b c
section
variable {w w' : World} {g g2 : Nat} {ps : List Wh}
theorem VRep.nw (h : VRep w g ps) (k : Nw w w') : VRep w' g ps := by
  obtain ⟨l, b, c, h1, h2, h3, h4⟩ := h
  exact ⟨l, b, c, h1.nw k, h2.nw k, h3.nw k, h4⟩
theorem VRep.lt (h : VRep w g ps) : g < w.heap.size := by
  obtain ⟨l, b, c, h1, _⟩ := h
  exact h1.lt
/-- another map's object may change -/
theorem VRep.chg {cs : Array Value} {t : TypeId} (h : VRep w g ps) (k : Chg w w' [g2]) (hg : g ≠ g2) (h2 : Obj1 w g2 t cs) (ht : t ≠ 31) : VRep w' g ps := by
  obtain ⟨l, b, c, h1, h3, h4, h5⟩ := h
  obtain ⟨cur, ho⟩ := h3.obj
  refine ⟨l, b, c, h1.chg k (by simpa using hg), h3.eqb (k.block l ho.lt (by simp; exact ho.ne h2 (Ne.symm ht))), h4.eq (k.block b h4.lt (by
    simp
    rintro rfl
    obtain ⟨es, cl, h6, _⟩ := h4
    unfold Obj1 at h2
    rw [h6] at h2
    cases h2)), h5⟩
end
theorem clone_any {w : World} {B n c : Nat} {a : Addr} {xs : List Value} (h : Rd w B 3 (some a) n xs) (hB : B ≤ w.heap.size) (hn : n ≤ 96) (h1 : ∀ u ∈ xs, u.oneCell' = true) : Calls Try.prog 28 #[.slice (some a) n c] w (RetOwn 31 3 xs w) := by
  have HR := Lib.hid h; clear h
  have H1 := Lib.hid h1; clear h1
  have hnil : ∀ w, (binOp .eql 28 (.slice (some a) n c) (.slice none 0 0)).run Try.prog w = .ok (.bool false) w := fun w => run_eql_slice_nil w 28 31 (some a) n c Try.underlying28
  go_enter Try.func28, Try.ntmps28
  go_wp2_with (at_builtin; refine wpList_app_lit T28 _ _ rfl rfl w.heap.size rfl rfl HR.out hB H1.out (by unfold maxLen; omega) (Nat.le_refl _) ?_; intro A' c' w' o' n'; have O := Lib.hid o'; have N := Lib.hid n'; clear o' n')
  go_ret
  exact ⟨A', n, c', rfl, O.out, N.out⟩
theorem fl_one_cells (ps : List Wh) : ∀ u ∈ fl wc ps, u.oneCell' = true := by
  intro u hu
  unfold fl at hu
  obtain ⟨l, hl, hu⟩ := List.mem_flatten.1 hu
  obtain ⟨x, _, rfl⟩ := List.mem_map.1 hl
  exact wc_one x u hu
theorem len_any {w : World} {g : Nat} {ps : List Wh} (h : VRep w g ps) : Calls Try.prog 14 #[pv g] w fun e w' => e = .returned (.int .i64 ps.length) ∧ w = w' := by
  obtain ⟨l, b, c, h, _⟩ := h
  obtain ⟨N, hN⟩ : ∃ N, ps.length = N := ⟨_, rfl⟩
  rw [hN] at h ⊢
  clear hN
  have hc := h.cell 0
  rw [show (#[Value.slice (some ⟨l, 0, none⟩) N c, .map (some b)])[0]? = some (.slice (some ⟨l, 0, none⟩) N c) from rfl] at hc
  unfold pv
  go_enter Try.func14, Try.ntmps14
  go_wp2
  go_ret
  exact ⟨rfl, rfl⟩
theorem all_any {w : World} {g : Nat} {ps : List Wh} (h : VRep w g ps) : Calls Try.prog 12 #[pv g] w (RetOwn 31 3 (fl wc ps) w) := by
  obtain ⟨l, b, c, h, h2, h3, h4⟩ := h
  have HC := clone_any (c := c) h2.rd (Nat.le_refl _) h4.2 (fl_one_cells ps)
  obtain ⟨N, hN⟩ : ∃ N, ps.length = N := ⟨_, rfl⟩
  rw [hN] at h HC
  have hc := h.cell 0
  rw [show (#[Value.slice (some ⟨l, 0, none⟩) N c, .map (some b)])[0]? = some (.slice (some ⟨l, 0, none⟩) N c) from rfl] at hc
  have HC' := Lib.hid HC; clear HC hN h2 h3 h4
  unfold pv
  go_enter Try.func12, Try.ntmps12
  go_wp2_with (refine HC'.out.mono ?_; rintro e w2 ⟨A', n', c', rfl, o2, n2⟩; have O := Lib.hid o2; have N2 := Lib.hid n2; clear o2 n2)
  go_ret
  exact ⟨A', n', c', rfl, O.out, N2.out⟩
theorem i31 : (Try.prog.info? 31).map (·.size) = some 3 := by kernel_rfl
theorem at_bad {w : World} {g : Nat} {ps : List Wh} (h : VRep w g ps) (n : Int) (hn : n < 0 ∨ (ps.length : Int) ≤ n) : Calls Try.prog 15 #[pv g, .int .i64 n] w (Ret (.tuple #[wv w0, .int .i64 3]) w) := by
  obtain ⟨l, b, c, h, _⟩ := h
  have hi := fun (w1 : World) (n1 : Nw w w1) => is_any (h.nw n1) n
  rw [show inB n ps.length = false from by unfold inB; simp; omega] at hi
  clear h hn
  unfold pv at hi ⊢
  have HI := Lib.hid hi; clear hi
  obtain ⟨i0, hi0, hz0, _⟩ := T28.info
  have HZ := Lib.hid hz0; clear hz0
  have H0 := Lib.hid hi0; clear hi0
  go_enter Try.func15, Try.ntmps15
  go_wp2_with (first | (refine wpList_alloc (size := 3) 31 rfl rfl w.heap.size i0 H0.out HZ.out rfl (Nat.le_refl _) ?_; intro g1 w1 a1 a2 a3; have A1 := Lib.hid a1; clear a1) | (refine (HI.out w1 a2).mono ?_; rintro e w2 ⟨rfl, rfl⟩) |
    (refine wpList_store_own (cs := wc w0) 31 _ _ rfl rfl rfl rfl rfl i31 (wc_one _) A1.out (by decide) ?_; intro w3 s1 s2))
  have o3 := Own.row1' s1
  rw [splice_all _ _ (by rfl)] at o3
  try simp only [Exit.inBlock, Exit.then]
  refine bodyPost_ret (res_cell_tmp rfl _ _ _ _ _ _ rfl o3 Try.underlying31 rfl i31) rfl ?_
  exact ⟨rfl, nw_of_gb a2 s2 (by intro x e; injection e with e; omega)⟩
theorem at_in {w : World} {g : Nat} {ps : List Wh} (h : VRep w g ps) (k : Nat) (x : Wh) (hx : ps[k]? = some x) : Calls Try.prog 15 #[pv g, .int .i64 k] w (Ret (.tuple #[wv x, .int .i64 0]) w) := by
  obtain ⟨l, b, c, h, h2, h3, h4⟩ := h
  have hk := (List.getElem?_eq_some_iff.1 hx).1
  have hi := fun (w1 : World) (n1 : Nw w w1) => is_any (h.nw n1) (k : Int)
  rw [show inB k ps.length = true from by unfold inB; simp; omega] at hi
  have hc : ∀ w', Nw w w' → w'.cell? ⟨g, 0, none⟩ = some (.slice (some ⟨l, 0, none⟩) ps.length c) := fun w' k => by rw [(h.nw k).cell 0]; rfl
  have hw := fun (w' : World) (k : Nw w w') => (h2.nw k).atL wc_len (by omega) hx
  have HC := Lib.hid (show ∀ w', Nw w w' → w'.cell? ⟨g, 0, none⟩ = some (.slice (some ⟨l, 0, none⟩) ps.length c) ∧ w'.cell? ⟨l, k * 3, none⟩ = some (.int .i64 x.t) ∧ w'.cell? ⟨l, k * 3 + 1, none⟩ = some (.int .i64 x.g) ∧ w'.cell? ⟨l, k * 3 + 2, none⟩ = some (.int .i64 x.s) from
    fun w' k => ⟨hc w' k, hw w' k 0 _ rfl, hw w' k 1 _ rfl, hw w' k 2 _ rfl⟩)
  have bk : decide (k < ps.length) = true := by simpa using hk
  obtain ⟨N, hN⟩ : ∃ N, ps.length = N := ⟨_, rfl⟩
  rw [hN] at HC hk
  have h96 := h4.2
  rw [hN] at h96
  clear h h2 h3 h4 hw hc bk hN hx
  unfold pv at hi ⊢
  have HI := Lib.hid hi; clear hi
  obtain ⟨i0, hi0, hz0, _⟩ := T28.info
  have HZ := Lib.hid hz0; clear hz0
  have H0 := Lib.hid hi0; clear hi0
  go_enter Try.func15, Try.ntmps15
  go_wp2_with (first | (refine wpList_alloc (size := 3) 31 rfl rfl w.heap.size i0 H0.out HZ.out rfl (Nat.le_refl _) ?_; intro g1 w1 a1 a2 a3; have A1 := Lib.hid a1; clear a1) | (refine (HI.out w1 a2).mono ?_; rintro e w2 ⟨rfl, rfl⟩; obtain ⟨c0, c1, c2, c3⟩ := HC.out w1 a2) |
    (refine wpList_store_own (cs := wc x) 31 _ _ rfl rfl rfl rfl rfl i31 (wc_one _) A1.out (show 0 + 3 ≤ 1 * 3 by omega) ?_; intro w3 s1 s2))
  have o3 := Own.row1' s1
  rw [splice_all _ _ (by rfl)] at o3
  try simp only [Exit.inBlock, Exit.then]
  refine bodyPost_ret (res_cell_tmp rfl _ _ _ _ _ _ rfl o3 Try.underlying31 rfl i31) rfl ?_
  exact ⟨rfl, nw_of_gb a2 s2 (by intro x e; injection e with e; omega)⟩
end Go.Proofs.Ytfpllllglpjipaa

