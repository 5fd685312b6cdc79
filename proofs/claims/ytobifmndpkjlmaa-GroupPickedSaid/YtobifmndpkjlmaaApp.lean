/- Appending several elements to an own row, and appending or copying in a region that draws; results that lie in one cell; under the premises that each lemma states. -/
import Derived.Test.YtobifmndpkjlmaaLib
import Derived.Test.YtobifmndpkjlmaaRes
namespace Go.BW
open Go.RowKit
section
variable {P : Program} {t e : TypeId} {z : Value} {size bytes : Nat}
variable {ops : Array Oper} {rest : List Oper} {o : Oper} {a : Act} {Q : Exit → Act → World → Prop} {w : World}
/-- 'append(s, u, v, ..)', s the call's own -/
theorem wpList_appM_own {w0 : World} {cs : List Value} {m : Nat} (T : El P t e z 1 bytes) (s x : Operand) (hop : o.op = .call { callee := .builtin .append, args := #[s, x], argTypes := #[t, t] }) (hw : Region.wanted o (yielded ops a.tmps) = true)
    {base : Nat} {A : Option Addr} {n c : Nat} {xs : List Value} (hs : a.eval s = .slice A n c) (hx : a.eval x = .slice (some ⟨w0.heap.size, 0, none⟩) m m)
    (hown : Own w0 base e 1 A n c xs) (hcs : cs.length = m) (h1 : ∀ u ∈ cs, u.oneCell' = true) (hsm : (n + m) * bytes ≤ 140737488355328 ∧ n + m ≤ maxLen) (hbase : base ≤ w0.heap.size)
    (hK : ∀ A' c' w', Own w' base e 1 A' (n + m) c' (xs ++ cs) → w0.grownBy w' (Value.slice A n c).ownBlock → wpList P ops Q rest (a.put o.dst (.slice A' (n + m) c')) w') :
    wpList P ops Q (o :: rest) a (w0.alloc (.cells cs.toArray e)) := by
  refine wpList_app_own T s x hop hw hs hx (World.ownsRow.alloc hown _) (rd_lit cs e m hcs) h1 hsm (by simp; omega) fun A' c' w' h2 h3 _ => hK A' c' w' h2 ?_
  exact gb_trans (World.grownBy_alloc w0 _ _) h3
variable {K : Act → World → Prop}
theorem wp_app_own (T : El P t e z size bytes) (s x : Operand) (hop : o.op = .call { callee := .builtin .append, args := #[s, x], argTypes := #[t, t] })
    {base : Nat} {A : Option Addr} {n c : Nat} {xs : List Value} (hs : a.eval s = .slice A n c) {B : Nat} {X : Option Addr} {m d : Nat} {news : List Value} (hx : a.eval x = .slice X m d)
    (hown : Own w base e size A n c xs) (hr : Rd w B size X m news) (h1 : ∀ u ∈ news, u.oneCell' = true) (hsm : (n + m) * bytes ≤ 140737488355328 ∧ n + m ≤ maxLen) (hbase : base ≤ w.heap.size)
    (hK : ∀ A' c' w', Own w' base e size A' (n + m) c' (xs ++ news) → w.grownBy w' (Value.slice A n c).ownBlock →
      ((Value.slice A' (n + m) c').ownBlock = (Value.slice A n c).ownBlock ∨ (Value.slice A' (n + m) c').ownBlock = some w.heap.size) → K (a.put o.dst (.slice A' (n + m) c')) w') :
    o.wp P a w K Q := by
  obtain ⟨A', c', w', hrun, h2, h3, h4⟩ := run_app_own T o.type hown (d := d) hr h1 hsm.1 hsm.2 hbase
  exact wp_ran (run_exec_append hop (by rw [hs, hx]; exact hrun)) (hK A' c' w' h2 h3 h4)
theorem wp_store_own (ty : TypeId) (p x : Operand) (hop : o.op = .store ty p x) {base g n c off : Nat} {xs cs : List Value}
    (hp : a.eval p = .pointer (some ⟨g, off, none⟩)) {v : Value} (hx : a.eval x = v) (hv : v.cells = cs.toArray) (hi : (P.info? ty).map (·.size) = some cs.length) (h1 : ∀ u ∈ cs, u.oneCell' = true)
    (hown : Own w base e size (some ⟨g, 0, none⟩) n c xs) (hfit : off + cs.length ≤ n * size)
    (hK : ∀ w', Own w' base e size (some ⟨g, 0, none⟩) n c (splice xs off cs) → w.grownBy w' (some g) → K (a.put o.dst undef) w') : o.wp P a w K Q := by
  obtain ⟨w', hrun, h2, h3⟩ := run_store_own (P := P) ty hv hi h1 hown hfit
  exact wp_ran_skip (run_exec_store ty p x hop hp hx hrun) (hK w' h2 h3)
theorem wp_copy (dT sT elem : TypeId) (hu : P.underlying dT = some (.slice elem)) (hsz : (P.info? elem).map (·.size) = some 1) (d s : Operand)
    (hop : o.op = .call { callee := .builtin .copy, args := #[d, s], argTypes := #[dT, sT] })
    {base g n c off dLen dCap m cc B : Nat} {X : Option Addr} {xs news : List Value} (hd : a.eval d = .slice (some ⟨g, off, none⟩) dLen dCap) (hs : a.eval s = .slice X m cc)
    (hown : Own w base e size (some ⟨g, 0, none⟩) n c xs) (hr : Rd w B 1 X m news) (h1 : ∀ u ∈ news, u.oneCell' = true) (hfit : off + Nat.min m dLen ≤ n * size)
    (hK : ∀ w', Own w' base e size (some ⟨g, 0, none⟩) n c (splice xs off (news.take dLen)) → w.grownBy w' (some g) → K (a.put o.dst (goInt (Nat.min m dLen))) w') :
    o.wp P a w K Q := by
  obtain ⟨w', hrun, h2, h3⟩ := run_copy_mine (P := P) dT sT o.type elem hu hsz hown (dCap := dCap) (d := cc) hr h1 hfit
  refine wp_ran (w' := w') (v := goInt (Nat.min m dLen)) ?_ (hK w' h2 h3)
  unfold execOp
  simp only [hop, resolve, invoke, builtin, Sem.run_bind, Sem.run_pure, Result.andThen_ok, List.map_toArray, List.map_cons, List.map_nil, hd, hs, hrun]
end
theorem res_cell {P : Program} {fn : Func} {p : Tmp} {ty : TypeId} (h : fn.results = #[.cell p ty]) (tmps : Array Value) (w : World) (g : Nat) (t : TypeId) (cs : Array Value) (d : TypeDesc)
    (hp : tmps.getD p undef = .pointer (some ⟨g, 0, none⟩)) (hg : Obj1 w g t cs) (hu : P.underlying ty = some d) (hd : (match d with | .struct _ | .array _ _ => true | _ => false) = true) (hi : (P.info? ty).map (·.size) = some cs.size) :
    (results fn tmps).run P w = .ok (.agg cs) w := by
  simp only [results, h]
  rw [Array.getD_eq_getD_getElem?] at hp
  simp [Sem.run_bind, hp, asAddr, run_loadVar_row w g t ty cs (0, 0) d hg hu hd hi]
section
variable {P : Program}
/-- a slice of a slice, 'x[l:h]' -/
def cutA (A : Option Addr) (c l size : Nat) : Option Addr := if c = l then A else A.map (·.add (l * size))
theorem run_slice_lhN (t e : TypeId) (ht : P.underlying t = some (.slice e)) {size : Nat} (hi : (P.info? e).map (·.size) = some size) {w : World} (A : Option Addr) (n c l h : Nat) (hl : l ≤ h) (hc : h ≤ c) :
    (Instr.sliceAt t (.slice A n c) (some (.int .i64 l)) (some (.int .i64 h)) none).run P w = .ok (.slice (cutA A c l size) (h - l) (c - l)) w := by
  obtain ⟨i, hi, hs⟩ := Option.map_eq_some_iff.1 hi
  have h1 : (l : Int) ≤ h := by omega
  have h2 : (h : Int) ≤ c := by omega
  unfold Instr.sliceAt
  rw [Sem.run_bind, run_underlying ht]
  simp only [Result.andThen_ok]
  unfold Instr.slice
  rw [Sem.run_bind, run_underlying ht]
  simp [Instr.sliceBounds, run_sliceBound, sizeOf, typeInfo, hi, hs, h1, h2, hl, hc, cutA]
theorem run_slice_lN (t e : TypeId) (ht : P.underlying t = some (.slice e)) {size : Nat} (hi : (P.info? e).map (·.size) = some size) {w : World} (A : Option Addr) (n c l : Nat) (hl : l ≤ n) (hc : n ≤ c) :
    (Instr.sliceAt t (.slice A n c) (some (.int .i64 l)) none none).run P w = .ok (.slice (cutA A c l size) (n - l) (c - l)) w := by
  obtain ⟨i, hi, hs⟩ := Option.map_eq_some_iff.1 hi
  have h1 : (l : Int) ≤ n := by omega
  have h2 : (n : Int) ≤ c := by omega
  unfold Instr.sliceAt
  rw [Sem.run_bind, run_underlying ht]
  simp only [Result.andThen_ok]
  unfold Instr.slice
  rw [Sem.run_bind, run_underlying ht]
  simp [Instr.sliceBounds, run_sliceBound, sizeOf, typeInfo, hi, hs, h1, h2, hl, hc, cutA]
section
variable {ops : Array Oper} {rest : List Oper} {o : Oper} {a : Act} {Q : Exit → Act → World → Prop} {w : World}
theorem wpList_slice_lh (t e : TypeId) (ht : P.underlying t = some (.slice e)) (size : Nat) (hi : (P.info? e).map (·.size) = some size) (x l h : Operand) (hop : o.op = .slice t x (some l) (some h) none) (hw : Region.wanted o (yielded ops a.tmps) = true) (A : Option Addr) (n c : Nat) (kl kh : Nat) (vl vh : Int) (hx : a.eval x = .slice A n c) (hl : a.eval l = .int .i64 vl) (hh : a.eval h = .int .i64 vh)
    (el : vl = kl) (eh : vh = kh) (h1 : kl ≤ kh) (h2 : kh ≤ c) {A' : Option Addr} {m c' : Nat} (hA : cutA A c kl size = A') (hm : kh - kl = m) (hc' : c - kl = c') (hK : wpList P ops Q rest (a.put o.dst (.slice A' m c')) w) : wpList P ops Q (o :: rest) a w := by
  subst hA; subst hm; subst el; subst eh; subst hc'
  refine wpList_ran hw ?_ hK
  have := run_slice_lhN t e ht hi (w := w) A n c kl kh h1 h2
  unfold execOp
  simp [hop, hx, hl, hh, this]
end
section
variable {ops : Array Oper} {rest : List Oper} {o : Oper} {a : Act} {Q : Exit → Act → World → Prop} {w : World}
theorem wpList_slice_lo (t e : TypeId) (ht : P.underlying t = some (.slice e)) (size : Nat) (hi : (P.info? e).map (·.size) = some size) (x l : Operand) (hop : o.op = .slice t x (some l) none none) (hw : Region.wanted o (yielded ops a.tmps) = true) (A : Option Addr) (n c : Nat) (kl : Nat) (vl : Int) (hx : a.eval x = .slice A n c) (hl : a.eval l = .int .i64 vl)
    (el : vl = kl) (h1 : kl ≤ n) (h2 : n ≤ c) {A' : Option Addr} {m c' : Nat} (hA : cutA A c kl size = A') (hm : n - kl = m) (hc' : c - kl = c') (hK : wpList P ops Q rest (a.put o.dst (.slice A' m c')) w) : wpList P ops Q (o :: rest) a w := by
  subst hA; subst hm; subst el; subst hc'
  refine wpList_ran hw ?_ hK
  have := run_slice_lN t e ht hi (w := w) A n c kl h1 h2
  unfold execOp
  simp [hop, hx, hl, this]
end
theorem cutA_own {g c l size : Nat} (h : l < c) : cutA (some ⟨g, 0, none⟩) c l size = some ⟨g, l * size, none⟩ := by
  unfold cutA
  rw [if_neg (by omega)]
  simp only [Option.map_some]
  unfold Addr.add
  split
  · next h => rw [h]
  · simp
theorem Rd.cut {w : World} {B size n c l h : Nat} {A : Option Addr} {xs : List Value} (hr : Rd w B size A n xs) (hl : l ≤ h) (hh : h ≤ n) (hc : n ≤ c) : Rd w B size (cutA A c l size) (h - l) ((xs.take (h * size)).drop (l * size)) :=
  (hr.take hh).drop hl (Nat.le_trans hh hc)
end
section
variable {P : Program} {ops : Array Oper} {rest : List Oper} {o : Oper} {a : Act} {Q : Exit → Act → World → Prop} {w : World}
theorem Obj1.own {w : World} {g : Nat} {t : TypeId} {cs : Array Value} {size : Nat} (h : Obj1 w g t cs) (hs : cs.size = size) : Own w 0 t size (some ⟨g, 0, none⟩) 1 1 cs.toList :=
  ⟨by rw [Nat.one_mul]; simpa using hs, .inr ⟨g, 1, cs, rfl, Nat.zero_le _, h, Nat.le_refl _, by unfold maxLen; omega, by rw [Nat.one_mul]; exact hs, by rw [Nat.one_mul]; exact List.take_of_length_le (by simp; omega)⟩⟩
/-- a whole variable stored -/
theorem wpList_store_obj (ty : TypeId) (p x : Operand) (hop : o.op = .store ty p x) (hw : Region.wanted o (yielded ops a.tmps) = true) {g : Nat} {t : TypeId} {c0 : Array Value} (cs : List Value)
    (hp : a.eval p = .pointer (some ⟨g, 0, none⟩)) {v : Value} (hx : a.eval x = v) (hv : v.cells = cs.toArray) (hi : (P.info? ty).map (·.size) = some cs.length) (h1 : ∀ u ∈ cs, u.oneCell' = true)
    (ho : Obj1 w g t c0) (hl : c0.size = cs.length) (hK : ∀ w', Obj1 w' g t cs.toArray → w.grownBy w' (some g) → wpList P ops Q rest (a.put o.dst undef) w') : wpList P ops Q (o :: rest) a w := by
  refine wpList_store_own ty p x hop hw hp hx hv hi h1 (ho.own hl) (by omega) fun w' h2 h3 => hK w' ?_ h3
  rw [splice_all _ _ (by simpa using hl.symm)] at h2
  exact h2.row1'
/-- a whole variable loaded -/
theorem wpList_load_obj (ty : TypeId) (x : Operand) (hop : o.op = .load ty x) (hw : Region.wanted o (yielded ops a.tmps) = true) {g : Nat} {t : TypeId} {cs : Array Value} (hx : a.eval x = .pointer (some ⟨g, 0, none⟩)) (ho : Obj1 w g t cs)
    (d : TypeDesc) (hu : P.underlying ty = some d) (hd : (match d with | .struct _ | .array _ _ => true | _ => false) = true) (hi : (P.info? ty).map (·.size) = some cs.size)
    (hK : wpList P ops Q rest (a.put o.dst (.agg cs)) w) : wpList P ops Q (o :: rest) a w := by
  have h := wpList_load_agg (P := P) (ops := ops) (rest := rest) (o := o) (a := a) (Q := Q) (w := w) ty x hop hw hx cs.toList (fun j u hu => by rw [Nat.zero_add, ho.cell j]; simpa using hu) d hu hd (by simpa using hi)
  simp only [Array.toArray_toList] at h
  exact h hK
theorem Obj1.ownN {w : World} {g : Nat} {t : TypeId} {cs : Array Value} {size n base : Nat} (h : Obj1 w g t cs) (hs : cs.size = n * size) (hb : base ≤ g) (hn : n ≤ maxLen) : Own w base t size (some ⟨g, 0, none⟩) n n cs.toList :=
  ⟨by simpa using hs, .inr ⟨g, n, cs, rfl, hb, h, Nat.le_refl _, hn, hs, List.take_of_length_le (by simp; omega)⟩⟩
theorem obj_fst (w : World) (t : TypeId) (B : Array Value) (Y : Obj) : Obj1 ((w.alloc (.cells B t)).alloc Y) w.heap.size t B := (Obj1.new w t B).nw (World.grownBy_alloc _ Y none)
theorem obj_snd (w : World) (X : Obj) (t : TypeId) (B : Array Value) : Obj1 ((w.alloc X).alloc (.cells B t)) (w.heap.size + 1) t B := by
  have h := Obj1.new (w.alloc X) t B
  simpa using h
end
section
variable {P : Program} {t e : TypeId} {z : Value} {size bytes : Nat} {w : World}
/-- 'clear(s[off:])' on the call's own row -/
theorem run_clear_own (T : El P t e z size bytes) (ty : TypeId) {base g n c off m d : Nat} {xs : List Value} (hz1 : ∀ u ∈ z.cells.toList, u.oneCell' = true) (hm : 0 < m)
    (hown : Own w base e size (some ⟨g, 0, none⟩) n c xs) (hfit : off + m * size ≤ n * size) :
    ∃ w', (Builtin.clear_ #[t] ty #[.slice (some ⟨g, off, none⟩) m d]).run P w = .ok (.tuple #[]) w' ∧ Own w' base e size (some ⟨g, 0, none⟩) n c (splice xs off (Builtin.zeroCells z.cells m).toList) ∧ w.grownBy w' (some g) := by
  obtain ⟨i, hq, hz, hs, _⟩ := T.info
  have hzl : (Builtin.zeroCells z.cells m).toList.length = m * size := by simp [Builtin.zeroCells, T.zs]
  have h1 : ∀ u ∈ (Builtin.zeroCells z.cells m).toList, u.oneCell' = true := by
    intro u hu
    simp only [Builtin.zeroCells, Array.toList_map, List.mem_map] at hu
    obtain ⟨k, _, rfl⟩ := hu
    have hk : k % z.cells.size < z.cells.size := Nat.mod_lt _ (by rw [T.zs]; exact T.pos)
    rw [getElem!_pos z.cells (k % z.cells.size) hk]
    exact hz1 _ (by simp)
  rcases hown.2 with ⟨h', _⟩ | ⟨g', cap, cur, hv', hb, hg, hnc, hcm, hcs, htake⟩
  · simp at h'
  · simp only [Value.slice.injEq, Option.some.injEq, Addr.mk.injEq, and_true, true_and] at hv'
    obtain ⟨rfl, rfl⟩ := hv'
    have hnn : n * size ≤ cur.size := by rw [hcs]; exact Nat.mul_le_mul_right _ hnc
    obtain ⟨L, hL⟩ : ∃ L, (Builtin.zeroCells z.cells m).toList = L := ⟨_, rfl⟩
    rw [hL] at hzl h1 ⊢
    have hst := run_storeCells_at P g off e L 0 cur w hg (by omega) h1
    rw [Nat.add_zero] at hst
    have hcu : cur.toList.length = cur.size := Array.length_toList
    have hxl : xs.length = n * size := hown.1
    refine ⟨w.setRow g (cur.toList.take off ++ L ++ cur.toList.drop (off + L.length)).toArray, ?_, ?_, ⟨rfl, rfl, rfl, by simp [World.setRow], fun k _ hk => setRow_other w g k _ (fun e => hk (by rw [e]))⟩⟩
    rotate_left
    · refine ⟨by rw [length_splice _ _ _ (by omega)]; exact hxl, .inr ⟨g, c, _, rfl, hb, setRow_heap w g cur (cur.toList.take off ++ L ++ cur.toList.drop (off + L.length)).toArray e _ hg, hnc, hcm, ?_, ?_⟩⟩
      · rw [List.append_assoc, ← hcs, List.size_toArray, ← hcu]
        exact length_splice _ _ _ (by omega)
      · rw [← htake]
        show (cur.toList.take off ++ L ++ cur.toList.drop (off + L.length)).take (n * size) = _
        rw [List.append_assoc]
        exact splice_take _ _ _ _ (by omega) (by omega)
    · obtain ⟨m', rfl⟩ : ∃ m', m = m' + 1 := ⟨m - 1, by omega⟩
      obtain ⟨W', hW⟩ : ∃ W', w.setRow g (cur.toList.take off ++ L ++ cur.toList.drop (off + L.length)).toArray = W' := ⟨_, rfl⟩
      rw [hW] at hst ⊢
      simp [Builtin.clear_, run_underlying T.und, zeroValue, typeInfo, hq, hz, hL, hst]
theorem wpList_clear_own {ops : Array Oper} {rest : List Oper} {o : Oper} {a : Act} {Q : Exit → Act → World → Prop} (T : El P t e z size bytes) (s : Operand) (hop : o.op = .call { callee := .builtin .clear, args := #[s], argTypes := #[t] }) (hw : Region.wanted o (yielded ops a.tmps) = true)
    {base g n c off m d : Nat} {xs : List Value} (hs : a.eval s = .slice (some ⟨g, off, none⟩) m d) (hz1 : ∀ u ∈ z.cells.toList, u.oneCell' = true) (hm : 0 < m) (hown : Own w base e size (some ⟨g, 0, none⟩) n c xs) (hfit : off + m * size ≤ n * size)
    (hK : ∀ w', Own w' base e size (some ⟨g, 0, none⟩) n c (splice xs off (Builtin.zeroCells z.cells m).toList) → w.grownBy w' (some g) → wpList P ops Q rest (a.put o.dst (.tuple #[])) w') : wpList P ops Q (o :: rest) a w := by
  obtain ⟨w', hrun, h2, h3⟩ := run_clear_own T o.type (d := d) hz1 hm hown hfit
  refine wpList_ran hw (w' := w') (v := .tuple #[]) ?_ (hK w' h2 h3)
  unfold execOp
  simp only [hop, resolve, invoke, builtin, Sem.run_bind, Sem.run_pure, Result.andThen_ok, List.map_toArray, List.map_cons, List.map_nil, hs, hrun]
/-- the beginning of an own row -/
theorem Own.prefix' {base g n c k : Nat} {xs : List Value} (h : Own w base e size (some ⟨g, 0, none⟩) n c xs) (hk : k ≤ n) : Own w base e size (some ⟨g, 0, none⟩) k c (xs.take (k * size)) := by
  have hl := h.1
  have hks : k * size ≤ n * size := Nat.mul_le_mul_right _ hk
  refine ⟨by rw [List.length_take]; omega, ?_⟩
  rcases h.2 with ⟨h', _⟩ | ⟨g', cap, cur, hv, hb, hg, hnc, hcm, hcs, htake⟩
  · simp at h'
  · injection hv with h1 _ h3
    injection h1 with h1; injection h1 with h1
    subst h1; subst h3
    refine .inr ⟨g, c, cur, rfl, hb, hg, by omega, hcm, hcs, ?_⟩
    rw [← htake, List.take_take, Nat.min_eq_left hks]
end
end Go.BW

