/- How a model of blocks lies in memory, and what changes there; each lemma under the premises that it states. -/
import Derived.Test.YtmcgfnfhpcddlaaProg
import Derived.Test.YtmcgfnfhpcddlaaJA
set_option linter.unusedVariables false
set_option linter.unusedSimpArgs false
/- How a model of blocks lies in memory, and what changes there; each lemma under the premises that it states. -/
namespace Go.Proofs.Ytmcgfnfhpcddlaa.Md
open Go.RowKit Go.BW

def z64 : Value := .agg (Array.replicate 64 (.int .u8 0))
theorem T22 : El Try.prog 30 33 z64 64 64 := El.mk' Try.underlying30 (by kernel_rfl) (by simp [z64, Value.cells]) (by decide)
theorem T50 : El Try.prog 118 121 (.pointer none) 1 8 := El.mk' Try.underlying118 (by kernel_rfl) rfl (by decide)
theorem bv_one (bs : List UInt8) : ∀ u ∈ bs.map bv, u.oneCell' = true := by intro u hu; obtain ⟨x, _, rfl⟩ := List.mem_map.1 hu; rfl

def pv (p : Nat) : Value := .pointer (some ⟨p, 0, none⟩)
/-- one block's object at p, its row at r: all its sectors, and whether it is open -/
structure BlkAt (w : World) (p r : Nat) (b : List UInt8 × Bool) (n c : Nat) : Prop where
  obj : Obj1 w p 123 #[.slice (some ⟨r, 0, none⟩) n c, .bool b.2]
  row : Own w 0 33 64 (some ⟨r, 0, none⟩) n c (b.1.map bv)
  pos : 0 < n
/-- a model at g, with the blocks F of memory -/
def Rep (w : World) (g : Nat) (M : List (List UInt8 × Bool)) (F : List Nat) (K : Nat) : Prop :=
  ∃ (l c : Nat) (ps rs : List Nat), F = g :: l :: (ps ++ rs) ∧ F.Nodup ∧ Obj1 w g 120 #[.slice (some ⟨l, 0, none⟩) M.length c] ∧ Own w 0 121 1 (some ⟨l, 0, none⟩) M.length c (ps.map pv) ∧
    ps.length = M.length ∧ rs.length = M.length ∧ ∀ (i : Nat) (b : List UInt8 × Bool) (p r : Nat), M[i]? = some b → ps[i]? = some p → rs[i]? = some r → ∃ n cc, BlkAt w p r b n cc ∧ n ≤ K

section
variable {w w' : World} {g : Nat} {M : List (List UInt8 × Bool)} {F G : List Nat} {K : Nat}
theorem BlkAt.eqb {p r n c : Nat} {b : List UInt8 × Bool} (h : BlkAt w p r b n c) (h1 : w'.heap[p]? = w.heap[p]?) (h2 : w'.heap[r]? = w.heap[r]?) : BlkAt w' p r b n c :=
  ⟨h.obj.eq h1, h.row.eqb h2, h.pos⟩
theorem BlkAt.lt {p r n c : Nat} {b : List UInt8 × Bool} (h : BlkAt w p r b n c) : p < w.heap.size ∧ r < w.heap.size :=
  ⟨h.obj.lt, by obtain ⟨cur, hc⟩ := h.row.obj; exact hc.lt⟩
theorem Rep.lt (h : Rep w g M F K) : ∀ x ∈ F, x < w.heap.size := by
  obtain ⟨l, c, ps, rs, rfl, _, h1, h2, h3, h4, h5⟩ := h
  intro x hx
  rcases List.mem_cons.1 hx with rfl | hx
  · exact h1.lt
  rcases List.mem_cons.1 hx with rfl | hx
  · obtain ⟨cur, hc⟩ := h2.obj; exact hc.lt
  rcases List.mem_append.1 hx with hx | hx
  · obtain ⟨i, hi, rfl⟩ := List.getElem_of_mem hx
    obtain ⟨n, cc, hb, _⟩ := h5 i M[i] ps[i] rs[i] (List.getElem?_eq_getElem (by omega)) (List.getElem?_eq_getElem hi) (List.getElem?_eq_getElem (by omega))
    exact hb.lt.1
  · obtain ⟨i, hi, rfl⟩ := List.getElem_of_mem hx
    obtain ⟨n, cc, hb, _⟩ := h5 i M[i] ps[i] rs[i] (List.getElem?_eq_getElem (by omega)) (List.getElem?_eq_getElem (by omega)) (List.getElem?_eq_getElem hi)
    exact hb.lt.2
theorem Rep.eqb (h : Rep w g M F K) (he : ∀ x ∈ F, w'.heap[x]? = w.heap[x]?) : Rep w' g M F K := by
  obtain ⟨l, c, ps, rs, hF, h0, h1, h2, h3, h4, h5⟩ := h
  have hm : ∀ x, x ∈ ps ∨ x ∈ rs → x ∈ F := by intro x hx; rw [hF]; simp only [List.mem_cons, List.mem_append]; exact .inr (.inr hx)
  refine ⟨l, c, ps, rs, hF, h0, h1.eq (he g (by rw [hF]; simp)), h2.eqb (he l (by rw [hF]; simp)), h3, h4, fun i b p r hb hp hr => ?_⟩
  obtain ⟨n, cc, hk, hn⟩ := h5 i b p r hb hp hr
  exact ⟨n, cc, hk.eqb (he p (hm p (.inl (List.mem_of_getElem? hp)))) (he r (hm r (.inr (List.mem_of_getElem? hr)))), hn⟩
theorem Rep.chg (h : Rep w g M F K) (c : Chg w w' G) (hd : ∀ x ∈ F, x ∉ G) : Rep w' g M F K :=
  h.eqb fun x hx => c.block x (h.lt x hx) (hd x hx)
theorem Rep.nw (h : Rep w g M F K) (c : Nw w w') : Rep w' g M F K := h.eqb fun x hx => c.block x (h.lt x hx) (by simp)
theorem Rep.more {K' : Nat} (h : Rep w g M F K) (hK : K ≤ K') : Rep w g M F K' := by
  obtain ⟨l, c, ps, rs, hF, h0, h1, h2, h3, h4, h5⟩ := h
  refine ⟨l, c, ps, rs, hF, h0, h1, h2, h3, h4, fun i b p r hb hp hr => ?_⟩
  obtain ⟨n, cc, hk, hn⟩ := h5 i b p r hb hp hr
  exact ⟨n, cc, hk, by omega⟩
/-- the model's own cell, and its row of pointers -/
theorem Rep.head (h : Rep w g M F K) : ∃ l c, Obj1 w g 120 #[.slice (some ⟨l, 0, none⟩) M.length c] ∧ g ∈ F ∧
    ∀ i, i < M.length → ∃ p r b n cc, M[i]? = some b ∧ w.cell? ⟨l, i, none⟩ = some (.pointer (some ⟨p, 0, none⟩)) ∧ BlkAt w p r b n cc ∧ n ≤ K ∧ p ∈ F ∧ r ∈ F ∧ p ≠ r ∧ g ≠ p ∧ g ≠ r ∧
      ∀ (w' : World) (r' : Nat) (b' : List UInt8 × Bool) (n' c' K' : Nat), Chg w w' [p, r] → BlkAt w' p r' b' n' c' → n' ≤ K' → K ≤ K' → (r' = r ∨ w.heap.size ≤ r') →
        ∃ F', Rep w' g (M.set i b') F' K' ∧ (∀ x ∈ F', x ∈ F ∨ w.heap.size ≤ x) := by
  have hlt := h.lt
  obtain ⟨l, c, ps, rs, hF, h0, h1, h2, h3, h4, h5⟩ := h
  refine ⟨l, c, h1, by rw [hF]; simp, fun i hi => ?_⟩
  have hp : ps[i]? = some ps[i] := List.getElem?_eq_getElem (by omega)
  have hr : rs[i]? = some rs[i] := List.getElem?_eq_getElem (by omega)
  obtain ⟨n, cc, hk, hn⟩ := h5 i M[i] ps[i] rs[i] (List.getElem?_eq_getElem hi) hp hr
  obtain ⟨u, hu, hcell, _⟩ := h2.cellAt hi
  rw [List.getElem?_map, hp] at hu
  simp only [Option.map_some, Option.some.injEq] at hu
  subst hu
  have hnd := h0
  rw [hF] at hnd
  simp only [List.nodup_cons, List.mem_cons, List.mem_append, not_or, List.nodup_append] at hnd
  obtain ⟨⟨gl, gp, gr⟩, ⟨lp, lr⟩, ndp, ndr, dpr⟩ := hnd
  have hmp : ps[i] ∈ ps := List.getElem_mem (by omega)
  have hmr : rs[i] ∈ rs := List.getElem_mem (by omega)
  refine ⟨ps[i], rs[i], M[i], n, cc, List.getElem?_eq_getElem hi, hcell, hk, hn, by rw [hF]; simp [hmp], by rw [hF]; simp [hmr], dpr _ hmp _ hmr, fun e => gp (e ▸ hmp), fun e => gr (e ▸ hmr), ?_⟩
  intro w' r' b' n' c' K' hc hb' hn' hK hr'
  have same : ∀ x, x < w.heap.size → x ≠ ps[i] → x ≠ rs[i] → w'.heap[x]? = w.heap[x]? := fun x hx h1 h2 => hc.block x hx (by simp [h1, h2])
  have hr'n : ∀ x ∈ F, x ≠ rs[i] → x ≠ r' := by
    rintro x hx hne rfl
    rcases hr' with h | h
    · exact hne h
    · have := hlt x hx; omega
  have inF : ∀ x, x ∈ ps ∨ x ∈ rs → x ∈ F := by intro x hx; rw [hF]; simp only [List.mem_cons, List.mem_append]; exact .inr (.inr hx)
  have gF : g ∈ F := by rw [hF]; simp
  have lF : l ∈ F := by rw [hF]; simp
  have hset : ∀ j, j ≠ i → ∀ (hj : j < rs.length), rs[j] ≠ rs[i] := fun j hj hjl e => hj ((List.getElem_inj ndr).1 e)
  refine ⟨g :: l :: (ps ++ rs.set i r'), ⟨l, c, ps, rs.set i r', rfl, ?_, ?_, ?_, by simpa using h3, by simpa using h4, ?_⟩, ?_⟩
  · have mem' : ∀ x ∈ rs.set i r', x = r' ∨ (x ∈ rs ∧ x ≠ rs[i]) := by
      intro x hx
      obtain ⟨j, hj, rfl⟩ := List.getElem_of_mem hx
      rw [List.length_set] at hj
      rw [List.getElem_set]
      by_cases hij : i = j
      · rw [if_pos hij]; exact .inl rfl
      · rw [if_neg hij]; exact .inr ⟨List.getElem_mem hj, hset j (fun e => hij e.symm) hj⟩
    simp only [List.nodup_cons, List.mem_cons, List.mem_append, not_or, List.nodup_append]
    refine ⟨⟨gl, gp, fun hx => ?_⟩, ⟨lp, fun hx => ?_⟩, ndp, ?_, fun a ha b hb => ?_⟩
    · rcases mem' g hx with e | ⟨e, _⟩
      · exact hr'n g gF (fun e2 => gr (e2 ▸ hmr)) e
      · exact gr e
    · rcases mem' l hx with e | ⟨e, _⟩
      · exact hr'n l lF (fun e2 => lr (e2 ▸ hmr)) e
      · exact lr e
    · unfold List.Nodup
      rw [List.pairwise_iff_getElem]
      intro a b ha hb hab
      rw [List.length_set] at ha hb
      rw [List.getElem_set, List.getElem_set]
      have hne : ∀ j (hj : j < rs.length), j ≠ i → rs[j] ≠ r' := fun j hj hji => hr'n _ (inF _ (.inr (List.getElem_mem hj))) (hset j hji hj)
      by_cases h1 : i = a
      · have h2 : ¬ i = b := by omega
        rw [if_pos h1, if_neg h2]
        exact fun e => hne b hb (fun e2 => h2 e2.symm) e.symm
      · rw [if_neg h1]
        by_cases h2 : i = b
        · rw [if_pos h2]
          exact hne a ha (fun e2 => h1 e2.symm)
        · rw [if_neg h2]
          exact (List.pairwise_iff_getElem.1 ndr) a b ha hb hab
    · rcases mem' b hb with e | ⟨e, _⟩
      · rw [e]; exact hr'n a (inF a (.inl ha)) (dpr a ha _ hmr)
      · exact dpr a ha b e
  · rw [List.length_set]
    exact h1.eq (same g (hlt g gF) (fun e => gp (e ▸ hmp)) (fun e => gr (e ▸ hmr)))
  · rw [List.length_set]
    exact h2.eqb (same l (hlt l lF) (fun e => lp (e ▸ hmp)) (fun e => lr (e ▸ hmr)))
  · intro j b p r hb hp' hr2
    by_cases hij : i = j
    · subst hij
      rw [List.getElem?_set, if_pos rfl, if_pos hi] at hb
      rw [List.getElem?_set, if_pos rfl, if_pos (by omega)] at hr2
      rw [hp] at hp'
      injection hb with hb; injection hp' with hp'; injection hr2 with hr2
      subst hb; subst hp'; subst hr2
      exact ⟨n', c', hb', hn'⟩
    · rw [List.getElem?_set, if_neg hij] at hb hr2
      obtain ⟨n2, c2, hk2, hn2⟩ := h5 j b p r hb hp' hr2
      have hjp := List.getElem?_eq_some_iff.1 hp'
      have hjr := List.getElem?_eq_some_iff.1 hr2
      obtain ⟨hj1, rfl⟩ := hjp
      obtain ⟨hj2, rfl⟩ := hjr
      refine ⟨n2, c2, hk2.eqb (same _ hk2.lt.1 ?_ (dpr _ (List.getElem_mem hj1) _ hmr)) (same _ hk2.lt.2 (fun e => dpr _ hmp _ (List.getElem_mem hj2) e.symm) (hset j (fun e => hij e.symm) hj2)), by omega⟩
      exact fun e => hij ((List.getElem_inj ndp).1 e).symm
  · intro x hx
    simp only [List.mem_cons, List.mem_append] at hx
    rcases hx with rfl | rfl | hx | hx
    · exact .inl gF
    · exact .inl lF
    · exact .inl (inF x (.inl hx))
    · obtain ⟨j, hj, rfl⟩ := List.getElem_of_mem hx
      rw [List.length_set] at hj
      rw [List.getElem_set]
      split
      · rcases hr' with h | h
        · rw [h]; exact .inl (inF _ (.inr hmr))
        · exact .inr h
      · exact .inl (inF _ (.inr (List.getElem_mem hj)))
theorem Rep.obj (h : Rep w g M F K) : ∃ l c, Obj1 w g 120 #[.slice (some ⟨l, 0, none⟩) M.length c] := by obtain ⟨l, c, h1, _⟩ := h.head; exact ⟨l, c, h1⟩
theorem Obj1.inj {t t' : TypeId} {cs cs' : Array Value} {x : Nat} (h : Obj1 w x t cs) (k : Obj1 w x t' cs') : cs = cs' := by
  have := h.symm.trans k
  simp only [Option.some.injEq, Obj.cells.injEq] at this
  exact this.1
/-- one block of the model, and what a change of it makes -/
structure AtB (w : World) (g : Nat) (M : List (List UInt8 × Bool)) (F : List Nat) (K l i p r : Nat) (b : List UInt8 × Bool) (n c : Nat) : Prop where
  elt : M[i]? = some b
  cell : w.cell? ⟨l, i, none⟩ = some (.pointer (some ⟨p, 0, none⟩))
  blk : BlkAt w p r b n c
  small : n ≤ K
  pF : p ∈ F
  rF : r ∈ F
  pr : p ≠ r
  gp : g ≠ p
  gr : g ≠ r
  upd : ∀ (w' : World) (r' : Nat) (b' : List UInt8 × Bool) (n' c' K' : Nat), Chg w w' [p, r] → BlkAt w' p r' b' n' c' → n' ≤ K' → K ≤ K' → (r' = r ∨ w.heap.size ≤ r') →
        ∃ F', Rep w' g (M.set i b') F' K' ∧ (∀ x ∈ F', x ∈ F ∨ w.heap.size ≤ x)
theorem Rep.at (h : Rep w g M F K) {l N c : Nat} (ho : Obj1 w g 120 #[.slice (some ⟨l, 0, none⟩) N c]) {i : Nat} (hi : i < M.length) : ∃ p r b n cc, AtB w g M F K l i p r b n cc := by
  obtain ⟨l', c', h1, _, h3⟩ := h.head
  have e := Obj1.inj ho h1
  simp only [Array.mk.injEq, List.cons.injEq, Value.slice.injEq, Option.some.injEq, Addr.mk.injEq, and_true] at e
  obtain ⟨rfl, rfl, rfl⟩ := e
  obtain ⟨p, r, b, n, cc, a1, a2, a3, a4, a5, a6, a7, a8, a9, a10⟩ := h3 i hi
  exact ⟨p, r, b, n, cc, a1, a2, a3, a4, a5, a6, a7, a8, a9, a10⟩
theorem BlkAt.nw {p r n c : Nat} {b : List UInt8 × Bool} (h : BlkAt w p r b n c) (k : Nw w w') : BlkAt w' p r b n c := h.eqb (k.block _ h.lt.1 (by simp)) (k.block _ h.lt.2 (by simp))
theorem BlkAt.openSet {p r n c : Nat} {b : List UInt8 × Bool} (h : BlkAt w p r b n c) (hne : p ≠ r) (v : Bool) : BlkAt (w.setCell ⟨p, 1, none⟩ (.bool v)) p r (b.1, v) n c :=
  ⟨h.obj.set 1 (.bool v), h.row.eqb (Below.heap_setCell w _ _ r (fun e => hne e.symm)), h.pos⟩
theorem BlkAt.allSet {p r r' n c n' c' : Nat} {b : List UInt8 × Bool} {bs : List UInt8} (h : BlkAt w p r b n c) (hne : p ≠ r') (ho : Own w 0 33 64 (some ⟨r', 0, none⟩) n' c' (bs.map bv)) (hn : 0 < n') :
    BlkAt (w.setCell ⟨p, 0, none⟩ (.slice (some ⟨r', 0, none⟩) n' c')) p r' (bs, b.2) n' c' :=
  ⟨h.obj.set 0 _, ho.eqb (Below.heap_setCell w _ _ r' (fun e => hne e.symm)), hn⟩
/-- f of the first k -/
def mapTo {α : Type} (f : α → α) (M : List α) (k : Nat) : List α := (M.take k).map f ++ M.drop k
theorem mapTo_len {α : Type} (f : α → α) (M : List α) (k : Nat) : (mapTo f M k).length = M.length := by unfold mapTo; simp; omega
theorem mapTo_zero {α : Type} (f : α → α) (M : List α) : mapTo f M 0 = M := by simp [mapTo]
theorem mapTo_all {α : Type} (f : α → α) (M : List α) : mapTo f M M.length = M.map f := by simp [mapTo]
theorem mapTo_step {α : Type} (f : α → α) (M : List α) (k : Nat) {b : α} (hb : (mapTo f M k)[k]? = some b) (hk : k < M.length) : (mapTo f M k).set k (f b) = mapTo f M (k + 1) := by
  have hl : ((M.take k).map f).length = k := by simp; omega
  have hb2 : M[k] = b := by
    unfold mapTo at hb
    rw [List.getElem?_append_right (by omega), hl, Nat.sub_self, List.getElem?_drop, Nat.add_zero, List.getElem?_eq_getElem hk] at hb
    injection hb
  unfold mapTo
  rw [List.set_append_right _ _ (by omega), hl, Nat.sub_self, List.drop_eq_getElem_cons hk, List.set_cons_zero, List.take_succ_eq_append_getElem hk, List.map_append, List.map_cons, List.map_nil, List.append_assoc, hb2]
  rfl
/-- what a call does to a model -/
def Post (v : Value) (g : Nat) (M' : List (List UInt8 × Bool)) (F : List Nat) (K : Nat) (w : World) (e : Ending) (w' : World) : Prop :=
  e = .returned v ∧ ∃ F', Rep w' g M' F' K ∧ Chg w w' F ∧ ∀ x ∈ F', x ∈ F ∨ w.heap.size ≤ x
def Fr (w : World) (g : Nat) (M' : List (List UInt8 × Bool)) (F : List Nat) (K : Nat) (w' : World) : Prop :=
  ∃ F', Rep w' g M' F' K ∧ Chg w w' F ∧ ∀ x ∈ F', x ∈ F ∨ w.heap.size ≤ x
theorem Fr.refl (h : Rep w g M F K) : Fr w g M F K w := ⟨F, h, Chg.refl w F, fun _ h => .inl h⟩
theorem Fr.step {w1 w2 : World} {M2 : List (List UInt8 × Bool)} {F1 : List Nat} {K1 : Nat} (h1 : Chg w w1 F) (hs : ∀ x ∈ F1, x ∈ F ∨ w.heap.size ≤ x) (h2 : Fr w1 g M2 F1 K1 w2) : Fr w g M2 F K1 w2 := by
  obtain ⟨F', hr, hc, hf⟩ := h2
  refine ⟨F', hr, h1.trans hc hs, fun x hx => ?_⟩
  rcases hf x hx with h | h
  · exact hs x h
  · have := h1.size; exact .inr (by omega)
end
end Go.Proofs.Ytmcgfnfhpcddlaa.Md


/- What the model's the, Len and now return, on any model that lies in memory. -/
namespace Go.Proofs.Ytmcgfnfhpcddlaa.Md
open Go.RowKit Go.BW

theorem the_none {w : World} {g l N c : Nat} (h : Obj1 w g 120 #[.slice (some ⟨l, 0, none⟩) N c]) (n : Int) (hn : n < 0 ∨ (N : Int) ≤ n) : Calls Try.prog 73 #[pv g, .int .i64 n] w fun e w' => e = .returned (.pointer none) ∧ w = w' := by
  have hc := h.cell 0
  rw [show (#[Value.slice (some ⟨l, 0, none⟩) N c])[0]? = some (.slice (some ⟨l, 0, none⟩) N c) from rfl] at hc
  unfold pv
  by_cases h0 : n < 0
  · go_enter Try.func73, Try.ntmps73
    go_wp2
    go_ret
    exact ⟨rfl, rfl⟩
  · have h1 : (N : Int) ≤ n := by omega
    go_enter Try.func73, Try.ntmps73
    go_wp2
    go_ret
    exact ⟨rfl, rfl⟩
theorem the_some {w : World} {g l N c : Nat} (h : Obj1 w g 120 #[.slice (some ⟨l, 0, none⟩) N c]) (i p : Nat) (hn : i < N) (hp : w.cell? ⟨l, i, none⟩ = some (pv p)) : Calls Try.prog 73 #[pv g, .int .i64 i] w fun e w' => e = .returned (pv p) ∧ w = w' := by
  have hc := h.cell 0
  rw [show (#[Value.slice (some ⟨l, 0, none⟩) N c])[0]? = some (.slice (some ⟨l, 0, none⟩) N c) from rfl] at hc
  unfold pv at *
  have b1 : decide ((i : Int) < 0) = false := decide_eq_false (by omega)
  have b2 : decide ((N : Int) ≤ (i : Int)) = false := decide_eq_false (by omega)
  have b3 : decide (N ≤ i) = false := decide_eq_false (by omega)
  go_enter Try.func73, Try.ntmps73
  go_wp2
  go_ret
  exact ⟨rfl, rfl⟩

/-- the newest of some sectors, laid end to end -/
def lastB (bs : List UInt8) : List UInt8 := bs.drop (bs.length - 64)
theorem Own.row1 {w : World} {base size g : Nat} {e : TypeId} {xs : List Value} (h : Own w base e size (some ⟨g, 0, none⟩) 1 1 xs) : Obj1 w g e xs.toArray := by
  rcases h.2 with ⟨h', _⟩ | ⟨g', cap, cur, hv, hb, hg, hnc, hcm, hcs, htake⟩
  · simp at h'
  · simp only [Value.slice.injEq, Option.some.injEq, Addr.mk.injEq, and_true, true_and] at hv
    obtain ⟨rfl, rfl⟩ := hv
    have : cur.toList = xs := by rw [← htake, List.take_of_length_le (by rw [Array.length_toList, hcs]; omega)]
    unfold Obj1
    rw [← this]
    exact hg
theorem BlkAt.load {w : World} {p r n c : Nat} {b : List UInt8 × Bool} (h : BlkAt w p r b n c) : ∀ j u, ((lastB b.1).map bv)[j]? = some u → w.cell? ⟨r, (n - 1) * 64 + j, none⟩ = some u := by
  intro j u hu
  have hl : b.1.length = n * 64 := by have := h.row.len; simpa using this
  have hn := h.pos
  unfold lastB at hu
  rw [List.map_drop, List.getElem?_drop] at hu
  have hlt := (List.getElem?_eq_some_iff.1 hu).1
  rw [List.length_map] at hlt
  obtain ⟨u2, h1, h2, _⟩ := h.row.cellN (k := b.1.length - 64 + j) (by omega)
  rw [hu] at h1
  injection h1 with h1
  subst h1
  rw [← h2]
  congr 2
  omega
theorem lastB_len {w : World} {p r n c : Nat} {b : List UInt8 × Bool} (h : BlkAt w p r b n c) : (lastB b.1).length = 64 := by
  have hl : b.1.length = n * 64 := by have := h.row.len; simpa using this
  have hn := h.pos
  unfold lastB
  rw [List.length_drop]
  omega
theorem i27 : (Try.prog.info? 33).map (·.size) = some 64 := by kernel_rfl
set_option maxRecDepth 100000 in
theorem now_any {w : World} {p r n c : Nat} {b : List UInt8 × Bool} (h : BlkAt w p r b n c) (hK : n ≤ 1000) : Calls Try.prog 63 #[pv p] w (Ret (.agg ((lastB b.1).map bv).toArray) w) := by
  have hc : ∀ w', Nw w w' → w'.cell? ⟨p, 0, none⟩ = some (.slice (some ⟨r, 0, none⟩) n c) := fun w' h2 => (h.obj.nw h2).cell 0
  have hn := h.pos
  have HL := Lib.hid (lastB_len h)
  have HB := Lib.hid h; clear h
  unfold pv
  go_enter Try.func63, Try.ntmps63
  go_wp2
  generalize hW : w.alloc _ = w1
  obtain ⟨zs, o1⟩ : ∃ zs, Own w1 w.heap.size 33 64 (some ⟨w.heap.size, 0, none⟩) 1 1 zs := by rw [← hW]; exact ⟨_, World.ownsRow_lit w _ 1 (Nat.le_refl _) (by unfold maxLen; omega) rfl⟩
  have n1 : Nw w w1 := by rw [← hW]; exact World.grownBy_alloc w _ none
  clear hW
  have O1 := Lib.hid o1; clear o1
  have b1 : IntKind.i64.wrap ((n : Int) - 1) = ((n - 1 : Nat) : Int) := by rw [IntWalk.i64_in _ (by omega)]; omega
  have b2 : n - 1 < n := by omega
  refine wp_region_held (S := (fun w' => Nw w w')) (by kernel_rfl) ?_
  change wpAnyH _ _ _ _ _ _ _ _ (World.drew w1)
  refine held_seg' (l := [0, 1, 2, 3, 4, 5, 6, 7, 8, 9, 10, 11]) (fuel := 1) rfl (by kernel_rfl) (by kernel_rfl) (by simp only [List.filterMap_cons, List.filterMap_nil, List.getElem?_toArray, List.getElem?_cons_succ, List.getElem?_cons_zero]; rfl) (fun _ _ d _ _ h => by cases d <;> exact h) (gb_drew n1) ?_
  iterate 11 (refine wpYield_step rfl (fun K hK => ?_)
              apply Exists.intro
              refine ⟨fun w' hw' => ?_, ?_⟩
              · (go_simp; try with_reducible rfl)
              go_simp
              refine hK _ ?_
              clear hK K)
  refine wpYield_load_agg 33 _ rfl rfl rfl _ (fun w' hw' j u hu => (HB.out.eqb (hw'.block _ HB.out.lt.1 (by simp)) (hw'.block _ HB.out.lt.2 (by simp))).load j u hu) _ Try.underlying33 rfl (i27.trans (by rw [List.length_map, HL.out])) ?_
  refine wpYield_nil ?_
  refine held_eff 12 rfl (by kernel_rfl) rfl (fun K hK => ?_)
  obtain ⟨w2, hrun, o2, g2⟩ := run_store_own (P := Try.prog) (cs := (lastB b.1).map bv) (off := 0) 33 (v := .agg ((lastB b.1).map bv).toArray) rfl (i27.trans (by rw [List.length_map, HL.out])) (bv_one _) (w := w1.drew) O1.out (by rw [List.length_map, HL.out]; omega)
  refine wp_ran_skip (run_exec_store 33 _ _ rfl rfl rfl hrun) ?_
  have n2 : Nw w w2 := nw_of_gb (gb_drew n1) g2 (by intro g e; injection e with e; omega)
  refine hK _ _ ⟨n2, ?_⟩
  clear hK K
  refine wpAnyH_done (by kernel_rfl) ?_ _
  have o3 := Own.row1 o2
  rw [splice_all _ _ (by rw [List.length_map, HL.out, O1.out.len])] at o3
  go_wp2
  refine bodyPost_ret (results_cell_row rfl _ _ _ _ _ _ _ rfl o3 Try.underlying33 rfl (i27.trans (by rw [List.size_toArray, List.length_map, HL.out]))) rfl ?_
  exact ⟨rfl, n2⟩
end Go.Proofs.Ytmcgfnfhpcddlaa.Md


/- What the model's Fall and Flush do to any model of at most 96 blocks. -/
namespace Go.Proofs.Ytmcgfnfhpcddlaa.Md
open Go.RowKit Go.BW

def fallB (b : List UInt8 × Bool) : List UInt8 × Bool := (b.1, true)
def flushB (b : List UInt8 × Bool) : List UInt8 × Bool := if b.2 then b else (lastB b.1, false)
def ToRel (f : List UInt8 × Bool → List UInt8 × Bool) (w : World) (g l N c : Nat) (M : List (List UInt8 × Bool)) (F : List Nat) (K : Nat) (k : Nat) (wr : World) : Prop :=
  Fr w g (mapTo f M k) F K wr ∧ Obj1 wr g 120 #[.slice (some ⟨l, 0, none⟩) N c]
theorem ToRel.step {f : List UInt8 × Bool → List UInt8 × Bool} {w wr w2 : World} {g l N c : Nat} {M : List (List UInt8 × Bool)} {F F1 : List Nat} {K k p r r' n cc n' c' : Nat} {b : List UInt8 × Bool} (hN : M.length = N)
    (hcg : Chg w wr F) (hF1 : ∀ x ∈ F1, x ∈ F ∨ w.heap.size ≤ x) (A : AtB wr g (mapTo f M k) F1 K l k p r b n cc) (ho : Obj1 wr g 120 #[.slice (some ⟨l, 0, none⟩) N c])
    (hc2 : Chg wr w2 [p, r]) (hb : BlkAt w2 p r' (f b) n' c') (hn : n' ≤ K) (hr : r' = r ∨ wr.heap.size ≤ r') (hk : k < N) : ToRel f w g l N c M F K (k + 1) w2 := by
  obtain ⟨F2, h2, h3⟩ := A.upd w2 r' (f b) n' c' K hc2 hb hn (Nat.le_refl _) hr
  have hp := A.pF
  have hr' := A.rF
  refine ⟨Fr.step hcg hF1 (F1 := F1) ⟨F2, by rw [mapTo_step f M k A.elt (by omega)] at h2; exact h2, ⟨hc2.os, hc2.tape, hc2.output, hc2.size, fun x hx hx2 => hc2.block x hx (fun hm => ?_)⟩, h3⟩, ho.chg hc2 ?_⟩
  · simp only [List.mem_cons, List.not_mem_nil, or_false] at hm
    rcases hm with rfl | rfl
    · exact hx2 hp
    · exact hx2 hr'
  · simp [A.gp, A.gr]
set_option maxHeartbeats 1000000 in
set_option maxRecDepth 100000 in
theorem fall_any {w : World} {g K : Nat} {M : List (List UInt8 × Bool)} {F : List Nat} (h : Rep w g M F K) (hm : M.length ≤ 96) : Calls Try.prog 57 #[pv g] w (Post (.tuple #[]) g (M.map fallB) F K w) := by
  obtain ⟨l, c, ho⟩ := h.obj
  have hc := ho.cell 0
  obtain ⟨N, hN⟩ : ∃ N, M.length = N := ⟨_, rfl⟩
  rw [hN] at hc ho hm
  have HN := Lib.hid hN; clear hN
  rw [show (#[Value.slice (some ⟨l, 0, none⟩) N c])[0]? = some (.slice (some ⟨l, 0, none⟩) N c) from rfl] at hc
  have HO := Lib.hid ho; clear ho
  have HR := Lib.hid h; clear h
  unfold pv
  go_enter Try.func57, Try.ntmps57
  go_wp2
  clear hc
  go_loopw [9] (fun i wr => ∃ k : Nat, k ≤ N ∧ i = .int .i64 k ∧ ToRel fallB w g l N c M F K k wr) (fun i _ => N - (intOf i).toNat)
  case atStart => exact ⟨0, Nat.zero_le _, rfl, by rw [mapTo_zero]; exact Fr.refl HR.out, HO.out⟩
  case round =>
    obtain ⟨k, hk, rfl, ⟨F1, hr, hcg, hF1⟩, ho⟩ := hrel
    by_cases hlt : k < N
    · obtain ⟨p, r, b, n, cc, A⟩ := hr.at ho (i := k) (by rw [mapTo_len, HN.out]; exact hlt)
      have hcl := A.cell
      have hop := (A.blk.obj).cell 1
      rw [show (#[Value.slice (some ⟨r, 0, none⟩) n cc, .bool b.2])[1]? = some (.bool b.2) from rfl] at hop
      have hfz := (A.blk.obj).frozen 1
      have hA := Lib.hid A; clear A
      have hr' := Lib.hid hr; clear hr
      have hcg' := Lib.hid hcg; clear hcg
      have hF' := Lib.hid hF1; clear hF1
      have ho' := Lib.hid ho; clear ho
      go_wp2
      refine ⟨⟨k + 1, hlt, rfl, ?_⟩, by simp [intOf]; omega⟩
      exact ToRel.step HN.out hcg'.out hF'.out hA.out ho'.out (Chg.set wr (List.mem_cons_self ..) _) (hA.out.blk.openSet hA.out.pr true) hA.out.small (.inl rfl) hlt
    · have hk' : k = N := by omega
      go_wp2
      go_end0
      refine ⟨rfl, ?_⟩
      rw [hk', ← HN.out, mapTo_all] at hr
      exact ⟨F1, hr, hcg, hF1⟩
theorem own_lit (w : World) (cs : List Value) (h : cs.length = 64) {w' : World} (hw : w' = w.alloc (.cells (Value.agg cs.toArray).cells 33)) : Own w' w.heap.size 33 64 (some ⟨w.heap.size, 0, none⟩) 1 1 cs := by
  have := World.ownsRow_lit (e := 33) (size := 64) w cs.toArray 1 (Nat.le_refl _) (by unfold maxLen; omega) (by simp [h])
  rw [hw]
  exact this
set_option maxHeartbeats 1000000 in
set_option maxRecDepth 100000 in
theorem flush_any {w : World} {g K : Nat} {M : List (List UInt8 × Bool)} {F : List Nat} (h : Rep w g M F K) (hm : M.length ≤ 96) (hK : K ≤ 1000) : Calls Try.prog 51 #[pv g] w (Post (.tuple #[]) g (M.map flushB) F K w) := by
  obtain ⟨l, c, ho⟩ := h.obj
  have hc := ho.cell 0
  obtain ⟨N, hN⟩ : ∃ N, M.length = N := ⟨_, rfl⟩
  rw [hN] at hc ho hm
  have HN := Lib.hid hN; clear hN
  rw [show (#[Value.slice (some ⟨l, 0, none⟩) N c])[0]? = some (.slice (some ⟨l, 0, none⟩) N c) from rfl] at hc
  have HO := Lib.hid ho; clear ho
  have HR := Lib.hid h; clear h
  have HK := Lib.hid hK; clear hK
  unfold pv
  go_enter Try.func51, Try.ntmps51
  go_wp2
  clear hc
  go_loopw [9] (fun i wr => ∃ k : Nat, k ≤ N ∧ i = .int .i64 k ∧ ToRel flushB w g l N c M F K k wr) (fun i _ => N - (intOf i).toNat)
  case atStart => exact ⟨0, Nat.zero_le _, rfl, by rw [mapTo_zero]; exact Fr.refl HR.out, HO.out⟩
  case round =>
    obtain ⟨k, hk, rfl, ⟨F1, hr, hcg, hF1⟩, ho⟩ := hrel
    by_cases hlt : k < N
    · obtain ⟨p, r, b, n, cc, A⟩ := hr.at ho (i := k) (by rw [mapTo_len, HN.out]; exact hlt)
      have hcl := A.cell
      have hop := (A.blk.obj).cell 1
      rw [show (#[Value.slice (some ⟨r, 0, none⟩) n cc, .bool b.2])[1]? = some (.bool b.2) from rfl] at hop
      have hA := Lib.hid A; clear A
      have hr' := Lib.hid hr; clear hr
      have hcg' := Lib.hid hcg; clear hcg
      have hF' := Lib.hid hF1; clear hF1
      have ho' := Lib.hid ho; clear ho
      rcases hb2 : b.2 with _ | _
      · rw [hb2] at hop
        have hb3 := Lib.hid hb2; clear hb2
        have hnow := Lib.hid (now_any hA.out.blk (Nat.le_trans hA.out.small HK.out))
        unfold pv at hnow
        have HL := Lib.hid (lastB_len hA.out.blk)
        have hcp : ∀ w', Nw wr w' → w'.cell? ⟨p, 0, none⟩ = some (.slice (some ⟨r, 0, none⟩) n cc) := fun w' h2 => (hA.out.blk.obj.nw h2).cell 0
        have hfp : ∀ w', Nw wr w' → w'.frozen? ⟨p, 0, none⟩ = false := fun w' h2 => (hA.out.blk.obj.nw h2).frozen 0
        go_wp2_with (first | (refine hnow.out.mono ?_; rintro e w2 ⟨rfl, n2⟩; have n2' := Lib.hid n2; clear n2) |
          (refine wpList_buildSlice1 T22 _ rfl rfl (v := .agg ((lastB b.1).map bv).toArray) rfl (by simp [Value.cells, HL.out]) (by omega) ?_; obtain ⟨w3, hw3⟩ : ∃ w3, w3 = w2.alloc (.cells (Value.agg ((lastB b.1).map bv).toArray).cells 33) := ⟨_, rfl⟩; rw [← hw3];
            have n3 : Nw wr w3 := by rw [hw3]; exact gb_alloc n2'.out _); have o3 := Lib.hid (own_lit w2 _ (by rw [List.length_map, HL.out]) hw3); clear hw3)
        have hs2 := n2'.out.size
        have hlt2 := hA.out.blk.lt.1
        have hset := (hA.out.blk.nw n3).allSet (r' := w2.heap.size) (by omega) (o3.out.more (Nat.zero_le _)) (by omega)
        refine ⟨⟨k + 1, hlt, rfl, ?_⟩, by simp [intOf]; omega⟩
        refine ToRel.step (n' := 1) (c' := 1) HN.out hcg'.out hF'.out hA.out ho'.out ((Chg.of_nw n3).trans (Chg.set w3 (List.mem_cons_self ..) _) (fun x hx => .inl hx)) (r' := w2.heap.size) ?_ (Nat.le_trans hA.out.blk.pos hA.out.small) (.inr hs2) hlt
        have hfb : flushB b = (lastB b.1, b.2) := by unfold flushB; rw [hb3.out]; rfl
        rw [hfb]
        exact hset
      · rw [hb2] at hop
        have hb3 := Lib.hid hb2; clear hb2
        go_wp2
        refine ⟨⟨k + 1, hlt, rfl, ?_⟩, by simp [intOf]; omega⟩
        have hfb : flushB b = b := by unfold flushB; rw [hb3.out]; rfl
        exact ToRel.step HN.out hcg'.out hF'.out hA.out ho'.out (Chg.refl wr _) (by rw [hfb]; exact hA.out.blk) hA.out.small (.inl rfl) hlt
    · have hk' : k = N := by omega
      go_wp2
      go_end0
      refine ⟨rfl, ?_⟩
      rw [hk', ← HN.out, mapTo_all] at hr
      exact ⟨F1, hr, hcg, hF1⟩
end Go.Proofs.Ytmcgfnfhpcddlaa.Md


/- What the model's Write does. -/
namespace Go.Proofs.Ytmcgfnfhpcddlaa.Md
open Go.RowKit Go.BW

theorem run_exec_buildSlice1 {P : Program} {t e : TypeId} {z : Value} {size bytes : Nat} {o : Oper} {a : Act} {w : World} (T : El P t e z size bytes) (x : Operand) (hop : o.op = .buildSlice t 1 #[(0, x)]) {v : Value} (hx : a.eval x = v) (hv : v.cells.size = size) (hsm : size ≤ 16777216) :
    (execOp a.eval o).run P w = .ok (.value (.slice (some ⟨w.heap.size, 0, none⟩) 1 1)) (w.alloc (.cells v.cells e)) := by
  unfold execOp
  simp [hop, hx, run_buildSlice1 T v hv hsm]
theorem _root_.Go.BW.Chg.wide {w w' : World} {F G : List Nat} (h : Chg w w' F) (hs : ∀ x ∈ F, x ∈ G) : Chg w w' G := ⟨h.os, h.tape, h.output, h.size, fun k hk hn => h.block k hk (fun hm => hn (hs k hm))⟩
def sv (s : List UInt8) : Value := .agg (s.map bv).toArray
def Bad (M : List (List UInt8 × Bool)) (n : Int) : Prop := n < 0 ∨ (M.length : Int) ≤ n
set_option maxRecDepth 100000 in
theorem write_bad {w : World} {g K : Nat} {M : List (List UInt8 × Bool)} {F : List Nat} (h : Rep w g M F K) (n : Int) (hn : Bad M n) (s : List UInt8) (hs : s.length = 64) :
    Calls Try.prog 61 #[pv g, .int .i64 n, sv s] w (Ret (.int .i64 3) w) := by
  obtain ⟨l, c, ho⟩ := h.obj
  clear h
  have HO := Lib.hid ho; clear ho
  have HN := Lib.hid hn; clear hn
  have HS := Lib.hid hs; clear hs
  unfold sv
  have HT := fun (w1 : World) (n1 : Nw w w1) => the_none (HO.out.nw n1) n HN.out
  unfold pv at HT ⊢
  have HT' := Lib.hid HT; clear HT
  go_enter Try.func61, Try.ntmps61
  go_wp2_with fail
  obtain ⟨w1, hw1⟩ : ∃ w1, w1 = w.alloc (.cells (s.map bv).toArray 33) := ⟨_, rfl⟩
  rw [← hw1]
  have n1 : Nw w w1 := by rw [hw1]; exact World.grownBy_alloc w _ none
  clear hw1
  have N1 := Lib.hid n1; clear n1
  refine (HT'.out w1 N1.out).mono ?_
  rintro e w2 ⟨rfl, rfl⟩
  go_wp2
  go_ret
  exact ⟨rfl, N1.out⟩

set_option maxHeartbeats 1000000 in
set_option maxRecDepth 100000 in
theorem write_ok {w : World} {g Z : Nat} {M : List (List UInt8 × Bool)} {F : List Nat} (h : Rep w g M F Z) (hZ : Z ≤ 1000) (i : Nat) (b : List UInt8 × Bool) (hb : M[i]? = some b) (s : List UInt8) (hs : s.length = 64) :
    Calls Try.prog 61 #[pv g, .int .i64 i, sv s] w (Post (.int .i64 0) g (M.set i (b.1 ++ s, false)) F (Z + 1) w) := by
  obtain ⟨l, c, ho⟩ := h.obj
  have hi := (List.getElem?_eq_some_iff.1 hb).1
  obtain ⟨p, r, b', n, cc, A⟩ := h.at ho hi
  have hbb : b' = b := by have := A.elt; rw [hb] at this; injection this with this; exact this.symm
  subst hbb
  have HA := Lib.hid A; clear A
  have HT := fun (w1 : World) (n1 : Nw w w1) => the_some (ho.nw n1) i p hi (n1.cell HA.out.cell (by simp))
  clear hb
  have HR := Lib.hid h; clear h
  have HO := Lib.hid ho; clear ho
  have HI := Lib.hid hi; clear hi
  have HS := Lib.hid hs; clear hs
  have HZ := Lib.hid hZ; clear hZ
  unfold pv at HT ⊢
  unfold sv
  have HT' := Lib.hid HT; clear HT
  go_enter Try.func61, Try.ntmps61
  go_wp2_with fail
  obtain ⟨w1, hw1⟩ : ∃ w1, w1 = w.alloc (.cells (s.map bv).toArray 33) := ⟨_, rfl⟩
  rw [← hw1]
  have n1 : Nw w w1 := by rw [hw1]; exact World.grownBy_alloc w _ none
  have ob : Obj1 w1 w.heap.size 33 (s.map bv).toArray := by rw [hw1]; exact Obj1.new w _ _
  clear hw1
  have N1 := Lib.hid n1; clear n1
  have OB := Lib.hid ob; clear ob
  refine (HT'.out w1 N1.out).mono ?_
  rintro e w2 ⟨rfl, rfl⟩
  go_wp2_with fail
  have hcp : ∀ w', Nw w1 w' → w'.cell? ⟨p, 0, none⟩ = some (.slice (some ⟨r, 0, none⟩) n cc) := fun w' h2 => (HA.out.blk.obj.nw (gb_trans N1.out h2)).cell 0
  refine wp_region_U [7, 8] (fun w' => Nw w1 w') (by kernel_rfl) ?_
  change wpU _ _ _ _ _ _ _ _ _ (World.drew w1)
  refine U_segP (r := [0, 1, 2, 3, 4]) (fuel := 10) rfl (by kernel_rfl) (by kernel_rfl) (by simp only [List.filterMap_cons, List.filterMap_nil, List.getElem?_toArray, List.getElem?_cons_succ, List.getElem?_cons_zero]; rfl) (fun _ _ d _ _ h => by cases d <;> exact h) (until_of (gb_drew (Nw.refl w1))) ?_
  iterate 5 (refine wpYield_step rfl (fun K hK => ?_)
             apply Exists.intro
             refine ⟨fun w' hw' => ?_, ?_⟩
             · (go_simp; try with_reducible rfl)
             go_simp
             refine hK _ ?_
             clear hK K)
  refine wpYield_nil ?_
  refine U_segL (r := [5, 6]) (fuel := 8) rfl (by kernel_rfl) (by kernel_rfl) (by simp only [List.filterMap_cons, List.filterMap_nil, List.getElem?_toArray, List.getElem?_cons_succ, List.getElem?_cons_zero]; rfl) (fun _ _ d _ _ h => by cases d <;> exact h) (gb_drew (Nw.refl w1)) ?_
  (refine wpYield_step rfl (fun K hK => ?_)
   apply Exists.intro
   refine ⟨fun w' hw' => ?_, ?_⟩
   · (go_simp; try with_reducible rfl)
   go_simp
   refine hK _ ?_
   clear hK K)
  refine wpYield_load_agg 33 _ rfl rfl rfl (s.map bv) (fun w' hw' j u hu => by rw [Nat.zero_add, (OB.out.nw hw').cell j]; simpa using hu) _ Try.underlying33 rfl (i27.trans (by rw [List.length_map, HS.out])) ?_
  refine wpYield_nil ?_
  refine U_eff 7 rfl (by kernel_rfl) rfl (fun K hK => ?_)
  refine wp_ran (run_exec_buildSlice1 T22 _ rfl (v := .agg (s.map bv).toArray) rfl (by simp [Value.cells, HS.out]) (by omega)) ?_
  obtain ⟨w3, hw3⟩ : ∃ w3, w3 = w1.drew.alloc (.cells (Value.agg (s.map bv).toArray).cells 33) := ⟨_, rfl⟩
  rw [← hw3]
  have n3 : Nw w1 w3 := by rw [hw3]; exact gb_alloc (gb_drew (Nw.refl w1)) _
  have r3 := (own_lit w1.drew (s.map bv) (by rw [List.length_map, HS.out]) hw3).rd
  clear hw3
  have N3 := Lib.hid n3; clear n3
  have R3 := Lib.hid r3; clear r3
  refine hK _ _ ⟨until_of N3.out, ?_⟩
  clear hK K
  refine U_eff 8 rfl (by kernel_rfl) rfl (fun K hK => ?_)
  have hsm : n ≤ Z := HA.out.small
  have hown := HA.out.blk.row.nw (gb_trans N1.out N3.out)
  have hsz := N3.out.size
  have hsz1 := N1.out.size
  obtain ⟨A', c', w4, hrun, o4, g4, e4⟩ := run_app_own T22 30 (d := 1) hown R3.out (bv_one s) (by have := HZ.out; omega) (by unfold maxLen; have := HZ.out; omega) (Nat.zero_le _)
  refine wp_ran (run_exec_append rfl hrun) ?_
  refine hK _ _ ⟨until_past (by kernel_rfl), ?_⟩
  clear hK K
  refine U_segP (r := [9, 10]) (fuel := 4) rfl (by kernel_rfl) (by kernel_rfl) (by simp only [List.filterMap_cons, List.filterMap_nil, List.getElem?_toArray, List.getElem?_cons_succ, List.getElem?_cons_zero]; rfl) (fun _ _ d _ _ h => by cases d <;> exact h) (until_past (by kernel_rfl)) ?_
  iterate 2 (refine wpYield_step rfl (fun K hK => ?_)
             apply Exists.intro
             refine ⟨fun w' hw' => ?_, ?_⟩
             · (go_simp; try with_reducible rfl)
             go_simp
             refine hK _ ?_
             clear hK K)
  refine wpYield_nil ?_
  obtain ⟨r', rfl, _⟩ := o4.some_ (by omega)
  have e5 : r' = r ∨ r' = w3.heap.size := by
    rcases e4 with e | e
    · exact .inl (by simpa [Value.ownBlock] using e)
    · exact .inr (by simpa [Value.ownBlock] using e)
  have g5 : w3.grownBy w4 (some r) := by simpa [Value.ownBlock] using g4
  have n13 := gb_trans N1.out N3.out
  have plt := HA.out.blk.lt.1
  have ob4 : Obj1 w4 p 123 #[.slice (some ⟨r, 0, none⟩) n cc, .bool b'.2] := (HA.out.blk.obj.nw n13).eq (g5.block p (by omega) (by simp; exact HA.out.pr))
  have blk4 : BlkAt w4 p r' (b'.1 ++ s, b'.2) (n + 1) c' ∨ True := .inr trivial
  clear blk4 hrun e4 g4
  have prn : p ≠ r' := by
    rcases e5 with e | e
    · rw [e]; exact HA.out.pr
    · omega
  have c34 : Chg w w4 [p, r] := (Chg.of_nw n13).trans (Chg.of_gb g5 (F := [p, r]) (by intro x e; injection e with e; simp [e])) (fun x hx => .inl hx)
  have c0 := ob4.cell 0
  have f0 := ob4.frozen 0
  rw [show (#[Value.slice (some ⟨r, 0, none⟩) n cc, .bool b'.2])[0]? = some (.slice (some ⟨r, 0, none⟩) n cc) from rfl] at c0
  have OB4 := Lib.hid ob4; clear ob4
  have C34 := Lib.hid c34; clear c34
  have O4 := Lib.hid o4; clear o4
  refine U_eff 11 rfl (by kernel_rfl) rfl (fun K hK => ?_)
  go_simp
  obtain ⟨w5, hw5⟩ : ∃ w5, w5 = w4.setCell ⟨p, 0, none⟩ (.slice (some ⟨r', 0, none⟩) (n + 1) c') := ⟨_, rfl⟩
  rw [← hw5]
  have ob5 : Obj1 w5 p 123 #[.slice (some ⟨r', 0, none⟩) (n + 1) c', .bool b'.2] := by rw [hw5]; exact OB4.out.set 0 _
  have c1 := ob5.cell 1
  have f1 := ob5.frozen 1
  rw [show (#[Value.slice (some ⟨r', 0, none⟩) (n + 1) c', .bool b'.2])[1]? = some (.bool b'.2) from rfl] at c1
  have o5 : Own w5 0 33 64 (some ⟨r', 0, none⟩) (n + 1) c' ((b'.1 ++ s).map bv) := by rw [hw5, List.map_append]; exact O4.out.eqb (Below.heap_setCell w4 _ _ r' (fun e => prn e.symm))
  have b5 := Lib.hid (show BlkAt w5 p r' (b'.1 ++ s, b'.2) (n + 1) c' from ⟨ob5, o5, by omega⟩)
  have C5 := Lib.hid (C34.out.trans (by rw [hw5]; exact Chg.set w4 (List.mem_cons_self ..) _) (fun x hx => .inl hx) : Chg w w5 [p, r])
  clear hw5 ob5 o5
  refine hK _ _ ⟨until_past (by kernel_rfl), ?_⟩
  clear hK K
  refine U_segP (r := [12, 13]) (fuel := 1) rfl (by kernel_rfl) (by kernel_rfl) (by simp only [List.filterMap_cons, List.filterMap_nil, List.getElem?_toArray, List.getElem?_cons_succ, List.getElem?_cons_zero]; rfl) (fun _ _ d _ _ h => by cases d <;> exact h) (until_past (by kernel_rfl)) ?_
  iterate 2 (refine wpYield_step rfl (fun K hK => ?_)
             apply Exists.intro
             refine ⟨fun w' hw' => ?_, ?_⟩
             · (go_simp; try with_reducible rfl)
             go_simp
             refine hK _ ?_
             clear hK K)
  refine wpYield_nil ?_
  refine U_eff 14 rfl (by kernel_rfl) rfl (fun K hK => ?_)
  go_simp
  refine hK _ _ ⟨until_past (by kernel_rfl), ?_⟩
  clear hK K
  refine U_done (by kernel_rfl) ?_ _
  go_wp2
  go_ret
  obtain ⟨F2, h2, h3⟩ := HA.out.upd _ r' _ _ _ (Z + 1) (C5.out.trans (Chg.set w5 (p := ⟨p, 1, none⟩) (List.mem_cons_self ..) (.bool false)) (fun x hx => .inl hx)) (b5.out.openSet prn false) (by omega) (by omega) (by rcases e5 with e | e; exact .inl e; exact .inr (by omega))
  have hp := HA.out.pF
  have hr := HA.out.rF
  refine ⟨rfl, F2, h2, ?_, h3⟩
  exact (C5.out.trans (Chg.set w5 (p := ⟨p, 1, none⟩) (List.mem_cons_self ..) (.bool false)) (fun x hx => .inl hx)).wide (by intro x hx; simp at hx; rcases hx with rfl | rfl <;> assumption)
end Go.Proofs.Ytmcgfnfhpcddlaa.Md


/- What slices.Index and slices.Contains of sectors return. -/
namespace Go.Proofs.Ytmcgfnfhpcddlaa.Md
open Go.RowKit Go.BW

def secAt (bs : List UInt8) (i : Nat) : List UInt8 := (bs.drop (i * 64)).take 64
def hasB (bs s : List UInt8) : Bool := (List.range (bs.length / 64)).any fun i => decide (secAt bs i = s)
theorem hasB_iff (bs s : List UInt8) : hasB bs s = true ↔ ∃ i, i < bs.length / 64 ∧ secAt bs i = s := by
  unfold hasB
  simp [List.any_eq_true]
theorem secAt_len {bs : List UInt8} {n i : Nat} (h : bs.length = n * 64) (hi : i < n) : (secAt bs i).length = 64 := by
  unfold secAt; rw [List.length_take, List.length_drop]; omega
def IndexPost (bs s : List UInt8) (w : World) (e : Ending) (w' : World) : Prop := ∃ v : Int, e = .returned (.int .i64 v) ∧ decide (0 ≤ v) = hasB bs s ∧ Nw w w'
theorem secAt_cell {w : World} {B b off n : Nat} {bs : List UInt8} (h : Rd w B 64 (some ⟨b, off, none⟩) n (bs.map bv)) {i : Nat} (hi : i < n) : ∀ j u, ((secAt bs i).map bv)[j]? = some u → w.cell? ⟨b, off + i * 64 + j, none⟩ = some u := by
  obtain ⟨b', off', e, _, hc⟩ := h.2 (by omega)
  injection e with e
  injection e with e1 e2
  subst e1; subst e2
  intro j u hu
  rw [Nat.add_assoc]
  refine hc (i * 64 + j) u ?_
  unfold secAt at hu
  rw [List.map_take, List.map_drop] at hu
  have hlt := (List.getElem?_eq_some_iff.1 hu).1
  rw [List.getElem?_take, List.getElem?_drop] at hu
  split at hu
  · exact hu
  · cases hu
theorem size_alloc_nw {w w' : World} (h : Nw w w') : w.heap.size ≤ w'.heap.size := h.size
set_option maxHeartbeats 1000000 in
set_option maxRecDepth 100000 in
theorem index_any {w : World} {B : Nat} {A : Option Addr} {n c : Nat} {bs s : List UInt8} (h : Rd w B 64 A n (bs.map bv)) (hB : B ≤ w.heap.size) (hn : n ≤ 2000) (hs : s.length = 64) :
    Calls Try.prog 90 #[.slice A n c, sv s] w (IndexPost bs s w) := by
  have hl : bs.length = n * 64 := by have := h.1; simpa using this
  have HL := Lib.hid hl; clear hl
  have HS := Lib.hid hs; clear hs
  have HR := Lib.hid h; clear h
  unfold sv
  go_enter Try.func90, Try.ntmps90
  go_wp2_with fail
  obtain ⟨w1, hw1⟩ : ∃ w1, w1 = w.alloc (.cells (s.map bv).toArray 33) := ⟨_, rfl⟩
  rw [← hw1]
  have n1 : Nw w w1 := by rw [hw1]; exact World.grownBy_alloc w _ none
  have ob : Obj1 w1 w.heap.size 33 (s.map bv).toArray := by rw [hw1]; exact Obj1.new w _ _
  clear hw1
  have N1 := Lib.hid n1; clear n1
  have OB := Lib.hid ob; clear ob
  go_loopw [8] (fun i wr => ∃ k : Nat, k ≤ n ∧ i = .int .i64 k ∧ (∀ j, j < k → secAt bs j ≠ s) ∧ Nw w1 wr) (fun i _ => n - (intOf i).toNat)
  case atStart => exact ⟨0, Nat.zero_le _, rfl, fun j hj => by omega, Nw.refl w1⟩
  case round =>
    obtain ⟨k, hk, rfl, hno, hnw⟩ := hrel
    have HNO := Lib.hid hno; clear hno
    have HNW := Lib.hid hnw; clear hnw
    by_cases hlt : k < n
    · obtain ⟨b, off, rfl, hb, _⟩ := HR.out.2 (by omega)
      go_wp2_with fail
      obtain ⟨q, hq⟩ : ∃ q, decide (s = secAt bs k) = q := ⟨_, rfl⟩
      have HQ := Lib.hid hq; clear hq
      refine wp_region_held (S := (fun w' => Nw w1 w')) (by kernel_rfl) ?_
      change wpAnyH _ _ _ _ _ _ _ _ (World.drew wr)
      refine held_seg' (l := [0, 1, 2, 3, 4, 5]) (fuel := 0) rfl (by kernel_rfl) (by kernel_rfl) (by simp only [List.filterMap_cons, List.filterMap_nil, List.getElem?_toArray, List.getElem?_cons_succ, List.getElem?_cons_zero]; rfl) (fun _ _ d _ _ h => by cases d <;> exact h) (gb_drew HNW.out) ?_
      refine wpYield_load_agg 33 _ rfl rfl rfl (s.map bv) (fun w' hw' j u hu => by rw [Nat.zero_add, (OB.out.nw hw').cell j]; simpa using hu) _ Try.underlying33 rfl (i27.trans (by rw [List.length_map, HS.out])) ?_
      iterate 3 (refine wpYield_step rfl (fun K hK => ?_)
                 apply Exists.intro
                 refine ⟨fun w' hw' => ?_, ?_⟩
                 · (go_simp; try with_reducible rfl)
                 go_simp
                 refine hK _ ?_
                 clear hK K)
      refine wpYield_load_agg 33 _ rfl rfl rfl ((secAt bs k).map bv) (fun w' hw' => secAt_cell (HR.out.nw (gb_trans N1.out hw') hB) hlt) _ Try.underlying33 rfl (i27.trans (by rw [List.length_map, secAt_len HL.out hlt])) ?_
      refine wpYield_eq_arr false 33 _ 5 64 _ _ rfl rfl s (secAt bs k) Try.underlying33 Try.underlying5 (by kernel_rfl) (by kernel_rfl) rfl rfl HS.out (secAt_len HL.out hlt) q (by rw [HQ.out]; simp) ?_
      refine wpYield_nil ?_
      refine wpAnyH_done (by kernel_rfl) ?_ _
      rcases q with _ | _
      · go_wp2
        refine ⟨⟨k + 1, hlt, rfl, fun j hj => ?_, gb_drew HNW.out⟩, by simp [intOf]; omega⟩
        by_cases hjk : j = k
        · rw [hjk]; intro e; have := HQ.out; rw [e] at this; simp at this
        · exact HNO.out j (by omega)
      · go_wp2
        go_ret
        refine ⟨_, rfl, ?_, gb_trans N1.out (gb_drew HNW.out)⟩
        rw [(hasB_iff bs s).2 ⟨k, by rw [HL.out]; omega, by have := HQ.out; simp at this; exact this.symm⟩]
        simp
    · have hk' : k = n := by omega
      go_wp2
      go_ret
      refine ⟨_, rfl, ?_, gb_trans N1.out HNW.out⟩
      have : hasB bs s = false := by
        rw [← Bool.not_eq_true, hasB_iff]
        rintro ⟨i, hi, e⟩
        exact HNO.out i (by rw [HL.out] at hi; omega) e
      rw [this]
      simp
end Go.Proofs.Ytmcgfnfhpcddlaa.Md


/- What slices.Contains of sectors and the model's May return. -/
namespace Go.Proofs.Ytmcgfnfhpcddlaa.Md
open Go.RowKit Go.BW

set_option maxHeartbeats 1000000 in
set_option maxRecDepth 100000 in
theorem contains_any {w : World} {B : Nat} {A : Option Addr} {n c : Nat} {bs s : List UInt8} (h : Rd w B 64 A n (bs.map bv)) (hB : B ≤ w.heap.size) (hn : n ≤ 2000) (hs : s.length = 64) :
    Calls Try.prog 79 #[.slice A n c, sv s] w (Ret (.bool (hasB bs s)) w) := by
  have HI := fun (w1 : World) (n1 : Nw w w1) => index_any (c := c) (h.nw n1 hB) (Nat.le_trans hB n1.size) hn hs
  unfold sv at HI ⊢
  have HI' := Lib.hid HI; clear HI
  have HS := Lib.hid hs; clear hs
  have HR := Lib.hid h; clear h
  go_enter Try.func79, Try.ntmps79
  go_wp2_with (first | (refine wpList_load_agg 33 _ rfl rfl rfl (s.map bv) (fun j u hu => by rw [Nat.zero_add, (Obj1.new w 33 (s.map bv).toArray).cell j]; simpa using hu) _ Try.underlying33 rfl (i27.trans (by rw [List.length_map, HS.out])) ?_) | (refine (HI'.out _ (World.grownBy_alloc w _ none)).mono ?_; rintro e w2 ⟨v, rfl, hv, n2⟩; have HV := Lib.hid hv; clear hv; have N2 := Lib.hid n2; clear n2))
  go_ret
  rw [HV.out]
  exact ⟨rfl, gb_trans (World.grownBy_alloc w _ none) N2.out⟩

def mayM (M : List (List UInt8 × Bool)) (n : Int) (s : List UInt8) : Bool :=
  if n < 0 then false else match M[n.toNat]? with
  | some b => if b.2 then hasB b.1 s else decide (lastB b.1 = s)
  | none => false
set_option maxRecDepth 100000 in
theorem may_bad {w : World} {g K : Nat} {M : List (List UInt8 × Bool)} {F : List Nat} (h : Rep w g M F K) (n : Int) (hn : Bad M n) (s : List UInt8) (hs : s.length = 64) :
    Calls Try.prog 74 #[pv g, .int .i64 n, sv s] w (Ret (.bool false) w) := by
  obtain ⟨l, c, ho⟩ := h.obj
  clear h
  have HO := Lib.hid ho; clear ho
  have HN := Lib.hid hn; clear hn
  have HS := Lib.hid hs; clear hs
  unfold sv
  have HT := fun (w1 : World) (n1 : Nw w w1) => the_none (HO.out.nw n1) n HN.out
  unfold pv at HT ⊢
  have HT' := Lib.hid HT; clear HT
  go_enter Try.func74, Try.ntmps74
  go_wp2_with fail
  obtain ⟨w1, hw1⟩ : ∃ w1, w1 = w.alloc (.cells (s.map bv).toArray 33) := ⟨_, rfl⟩
  rw [← hw1]
  have n1 : Nw w w1 := by rw [hw1]; exact World.grownBy_alloc w _ none
  clear hw1
  have N1 := Lib.hid n1; clear n1
  refine (HT'.out w1 N1.out).mono ?_
  rintro e w2 ⟨rfl, rfl⟩
  go_wp2
  go_ret
  exact ⟨rfl, N1.out⟩
set_option maxHeartbeats 1000000 in
set_option maxRecDepth 100000 in
theorem may_in {w : World} {g Z : Nat} {M : List (List UInt8 × Bool)} {F : List Nat} (h : Rep w g M F Z) (hZ : Z ≤ 1000) (i : Nat) (b : List UInt8 × Bool) (hb : M[i]? = some b) (s : List UInt8) (hs : s.length = 64) :
    Calls Try.prog 74 #[pv g, .int .i64 i, sv s] w (Ret (.bool (if b.2 then hasB b.1 s else decide (lastB b.1 = s))) w) := by
  obtain ⟨l, c, ho⟩ := h.obj
  have hi := (List.getElem?_eq_some_iff.1 hb).1
  obtain ⟨p, r, b', n, cc, A⟩ := h.at ho hi
  have hbb : b' = b := by have := A.elt; rw [hb] at this; injection this with this; exact this.symm
  subst hbb
  have HA := Lib.hid A; clear A
  have HT := fun (w1 : World) (n1 : Nw w w1) => the_some (ho.nw n1) i p hi (n1.cell HA.out.cell (by simp))
  have hsm := HA.out.small
  have HC := fun (w1 : World) (n1 : Nw w w1) => contains_any (c := cc) (s := s) (HA.out.blk.nw n1).row.rd (Nat.le_refl _) (by omega) hs
  have HW := fun (w1 : World) (n1 : Nw w w1) => now_any (HA.out.blk.nw n1) (by omega)
  clear hb h ho hi
  have HS := Lib.hid hs; clear hs
  obtain ⟨R, hR⟩ : ∃ R, (if b'.2 then hasB b'.1 s else decide (lastB b'.1 = s)) = R := ⟨_, rfl⟩
  rw [hR]
  have HR := Lib.hid hR; clear hR
  unfold sv at HC ⊢
  unfold pv at HT HW ⊢
  have HT' := Lib.hid HT; clear HT
  have HC' := Lib.hid HC; clear HC
  have HW' := Lib.hid HW; clear HW
  go_enter Try.func74, Try.ntmps74
  go_wp2_with fail
  obtain ⟨w1, hw1⟩ : ∃ w1, w1 = w.alloc (.cells (s.map bv).toArray 33) := ⟨_, rfl⟩
  rw [← hw1]
  have n1 : Nw w w1 := by rw [hw1]; exact World.grownBy_alloc w _ none
  have ob : Obj1 w1 w.heap.size 33 (s.map bv).toArray := by rw [hw1]; exact Obj1.new w _ _
  clear hw1
  have N1 := Lib.hid n1; clear n1
  have OB := Lib.hid ob; clear ob
  refine (HT'.out w1 N1.out).mono ?_
  rintro e w2 ⟨rfl, rfl⟩
  have hcp : ∀ w', Nw w1 w' → w'.cell? ⟨p, 0, none⟩ = some (.slice (some ⟨r, 0, none⟩) n cc) := fun w' h2 => (HA.out.blk.obj.nw (gb_trans N1.out h2)).cell 0
  have hop : w1.cell? ⟨p, 1, none⟩ = some (.bool b'.2) := (HA.out.blk.obj.nw N1.out).cell 1
  rcases hb2 : b'.2 with _ | _
  · rw [hb2] at hop
    have HB2 := Lib.hid hb2; clear hb2
    go_wp2_with fail
    refine wp_region_held (S := (fun w' => Nw w1 w')) (by kernel_rfl) ?_
    change wpAnyH _ _ _ _ _ _ _ _ (World.drew w1)
    refine held_seg' (l := [0, 2]) (fuel := 3) rfl (by kernel_rfl) (by kernel_rfl) (by simp only [List.filterMap_cons, List.filterMap_nil, List.getElem?_toArray, List.getElem?_cons_succ, List.getElem?_cons_zero]; rfl) (fun _ _ d _ _ h => by cases d <;> exact h) (gb_drew (Nw.refl w1)) ?_
    (refine wpYield_step rfl (fun K hK => ?_)
     apply Exists.intro
     refine ⟨fun w' hw' => ?_, ?_⟩
     · (go_simp; try with_reducible rfl)
     go_simp
     refine hK _ ?_
     clear hK K)
    refine wpYield_load_agg 33 _ rfl rfl rfl (s.map bv) (fun w' hw' j u hu => by rw [Nat.zero_add, (OB.out.nw hw').cell j]; simpa using hu) _ Try.underlying33 rfl (i27.trans (by rw [List.length_map, HS.out])) ?_
    refine wpYield_nil ?_
    refine held_eff 1 rfl (by kernel_rfl) rfl (fun K hK => ?_)
    go_simp
    refine (HW'.out w1.drew (gb_drew N1.out)).mono ?_
    rintro e w2 ⟨rfl, n2⟩
    refine hK _ _ ⟨gb_of_drew n2, ?_⟩
    clear hK K
    refine held_seg' (l := [3, 4]) (fuel := 0) rfl (by kernel_rfl) (by kernel_rfl) (by simp only [List.filterMap_cons, List.filterMap_nil, List.getElem?_toArray, List.getElem?_cons_succ, List.getElem?_cons_zero]; rfl) (fun _ _ d _ _ h => by cases d <;> exact h) (gb_of_drew n2) ?_
    refine wpYield_eq_arr false 33 _ 5 64 _ _ rfl rfl (lastB b'.1) s Try.underlying33 Try.underlying5 (by kernel_rfl) (by kernel_rfl) rfl rfl (lastB_len HA.out.blk) HS.out R (by rw [← HR.out, HB2.out]; simp) ?_
    (refine wpYield_step rfl (fun K hK => ?_)
     apply Exists.intro
     refine ⟨fun w' hw' => ?_, ?_⟩
     · (go_simp; try with_reducible rfl)
     go_simp
     refine hK _ ?_
     clear hK K)
    refine wpYield_nil ?_
    refine wpAnyH_done (by kernel_rfl) ?_ _
    have N2 := Lib.hid n2; clear n2
    go_wp2
    go_ret
    exact ⟨rfl, gb_trans N1.out (gb_of_drew N2.out)⟩
  · rw [hb2] at hop
    have HB2 := Lib.hid hb2; clear hb2
    go_wp2_with fail
    refine wp_region_held (S := (fun w' => Nw w1 w')) (by kernel_rfl) ?_
    change wpAnyH _ _ _ _ _ _ _ _ (World.drew w1)
    refine held_seg' (l := [0, 1, 2, 3, 4]) (fuel := 2) rfl (by kernel_rfl) (by kernel_rfl) (by simp only [List.filterMap_cons, List.filterMap_nil, List.getElem?_toArray, List.getElem?_cons_succ, List.getElem?_cons_zero]; rfl) (fun _ _ d _ _ h => by cases d <;> exact h) (gb_drew (Nw.refl w1)) ?_
    iterate 4 (refine wpYield_step rfl (fun K hK => ?_)
               apply Exists.intro
               refine ⟨fun w' hw' => ?_, ?_⟩
               · (go_simp; try with_reducible rfl)
               go_simp
               refine hK _ ?_
               clear hK K)
    refine wpYield_load_agg 33 _ rfl rfl rfl (s.map bv) (fun w' hw' j u hu => by rw [Nat.zero_add, (OB.out.nw hw').cell j]; simpa using hu) _ Try.underlying33 rfl (i27.trans (by rw [List.length_map, HS.out])) ?_
    refine wpYield_nil ?_
    refine held_eff 5 rfl (by kernel_rfl) rfl (fun K hK => ?_)
    go_simp
    refine (HC'.out w1.drew (gb_drew N1.out)).mono ?_
    rintro e w2 ⟨rfl, n2⟩
    refine hK _ _ ⟨gb_of_drew n2, ?_⟩
    clear hK K
    refine held_seg' (l := [6]) (fuel := 0) rfl (by kernel_rfl) (by kernel_rfl) (by simp only [List.filterMap_cons, List.filterMap_nil, List.getElem?_toArray, List.getElem?_cons_succ, List.getElem?_cons_zero]; rfl) (fun _ _ d _ _ h => by cases d <;> exact h) (gb_of_drew n2) ?_
    (refine wpYield_step rfl (fun K hK => ?_)
     apply Exists.intro
     refine ⟨fun w' hw' => ?_, ?_⟩
     · (go_simp; try with_reducible rfl)
     go_simp
     refine hK _ ?_
     clear hK K)
    refine wpYield_nil ?_
    refine wpAnyH_done (by kernel_rfl) ?_ _
    have N2 := Lib.hid n2; clear n2
    go_wp2
    go_ret
    rw [← HR.out, HB2.out]
    exact ⟨rfl, gb_trans N1.out (gb_of_drew N2.out)⟩
end Go.Proofs.Ytmcgfnfhpcddlaa.Md


/- What model.New makes. -/
namespace Go.Proofs.Ytmcgfnfhpcddlaa.Md
open Go.RowKit Go.BW

def z64b : List UInt8 := List.replicate 64 0
structure NewR (w : World) (g k : Nat) (A : Option Addr) (c : Nat) (ps rs : List Nat) (wr : World) : Prop where
  obj : Obj1 wr g 120 #[.slice A k c]
  row : Own wr 0 121 1 A k c (ps.map pv)
  lp : ps.length = k
  lr : rs.length = k
  nd : (g :: (ps ++ rs)).Nodup
  out : ∀ l, A = some ⟨l, 0, none⟩ → w.heap.size ≤ l ∧ l < wr.heap.size ∧ l ∉ g :: (ps ++ rs)
  blk : ∀ (i p r : Nat), ps[i]? = some p → rs[i]? = some r → ∃ cc, BlkAt wr p r (z64b, false) 1 cc
  new : ∀ x ∈ g :: (ps ++ rs), w.heap.size ≤ x ∧ x < wr.heap.size
  nw : Nw w wr
theorem NewR.step {w wr w3 w4 : World} {g k c p1 r1 l' c' cc : Nat} {A : Option Addr} {ps rs : List Nat} (h : NewR w g k A c ps rs wr) (n3 : Nw wr w3) (hr1 : wr.heap.size ≤ r1) (hp1 : wr.heap.size ≤ p1) (hpr : p1 ≠ r1)
    (hb : BlkAt w3 p1 r1 (z64b, false) 1 cc) (g4 : w3.grownBy w4 (Value.slice A k c).ownBlock) (o4 : Own w4 0 121 1 (some ⟨l', 0, none⟩) (k + 1) c' (ps.map pv ++ [pv p1]))
    (e4 : (Value.slice (some ⟨l', 0, none⟩) (k + 1) c').ownBlock = (Value.slice A k c).ownBlock ∨ (Value.slice (some ⟨l', 0, none⟩) (k + 1) c').ownBlock = some w3.heap.size) :
    NewR w g (k + 1) (some ⟨l', 0, none⟩) c' (ps ++ [p1]) (rs ++ [r1]) (w4.setCell ⟨g, 0, none⟩ (.slice (some ⟨l', 0, none⟩) (k + 1) c')) := by
  have s3 := n3.size
  have s4 := g4.size
  have s0 := h.nw.size
  have hA : ∀ l, (Value.slice A k c).ownBlock = some l → A = some ⟨l, 0, none⟩ := by
    intro l hl
    rcases h.row.2 with ⟨h2, _⟩ | ⟨g', cap, cur, hv, _⟩
    · injection h2 with h2; subst h2; simp [Value.ownBlock] at hl
    · injection hv with hv; subst hv; simp [Value.ownBlock] at hl; subst hl; rfl
  have hl' : (w.heap.size ≤ l' ∧ l' < wr.heap.size ∧ l' ∉ g :: (ps ++ rs)) ∨ l' = w3.heap.size := by
    rcases e4 with e | e
    · exact .inl (h.out l' (hA l' (e ▸ by simp [Value.ownBlock])))
    · exact .inr (by simpa [Value.ownBlock] using e)
  have hll : w.heap.size ≤ l' ∧ l' ∉ g :: (ps ++ rs) ∧ l' ≠ p1 ∧ l' ≠ r1 ∧ l' < w4.heap.size := by
    have hp := hb.lt
    have hlt : l' < w4.heap.size := by obtain ⟨cur, hc⟩ := o4.obj; exact hc.lt
    rcases hl' with ⟨a1, a2, a3⟩ | e
    · exact ⟨a1, a3, by omega, by omega, hlt⟩
    · refine ⟨by omega, fun hm => ?_, by omega, by omega, hlt⟩
      have := (h.new l' hm).2
      omega
  have keep : ∀ x, x < w3.heap.size → (∀ l, A = some ⟨l, 0, none⟩ → x ≠ l) → w4.heap[x]? = w3.heap[x]? := fun x hx hne => g4.block x hx (fun e => hne x (hA x e.symm) rfl)
  have keepO : ∀ x, x ∈ g :: (ps ++ rs) → w4.heap[x]? = wr.heap[x]? := fun x hx => by
    have h1 := (h.new x hx).2
    rw [keep x (by omega) (fun l hl e => (h.out l hl).2.2 (e ▸ hx)), n3.block x h1 (by simp)]
  have glt := (h.new g (List.mem_cons_self ..)).2
  have hw5 : ∀ x, x ≠ g → (w4.setCell ⟨g, 0, none⟩ (.slice (some ⟨l', 0, none⟩) (k + 1) c')).heap[x]? = w4.heap[x]? := fun x hx => Below.heap_setCell w4 _ _ x hx
  have n5 : Nw w (w4.setCell ⟨g, 0, none⟩ (.slice (some ⟨l', 0, none⟩) (k + 1) c')) := by
    have n4 : Nw w w4 := nw_of_gb (gb_trans h.nw n3) g4 (fun l hl => (h.out l (hA l hl)).1)
    exact gb_set n4 (.inr (h.new g (List.mem_cons_self ..)).1) _
  have size5 : (w4.setCell ⟨g, 0, none⟩ (.slice (some ⟨l', 0, none⟩) (k + 1) c')).heap.size = w4.heap.size := by simp [World.setCell]
  have hp := hb.lt
  have nd := h.nd
  simp only [List.nodup_cons, List.mem_append, not_or, List.nodup_append] at nd
  obtain ⟨⟨gp, gr⟩, ndp, ndr, dpr⟩ := nd
  have old : ∀ x, x ∈ g :: (ps ++ rs) → x < wr.heap.size := fun x hx => (h.new x hx).2
  have inp : ∀ x, x ∈ ps → x ∈ g :: (ps ++ rs) := fun x hx => List.mem_cons_of_mem _ (List.mem_append_left _ hx)
  have inr' : ∀ x, x ∈ rs → x ∈ g :: (ps ++ rs) := fun x hx => List.mem_cons_of_mem _ (List.mem_append_right _ hx)
  have gl : g ≠ l' := fun e => hll.2.1 (e ▸ List.mem_cons_self ..)
  refine ⟨?_, ?_, by simp [h.lp], by simp [h.lr], ?_, ?_, ?_, ?_, n5⟩
  · have := (h.obj.eq (keepO g (List.mem_cons_self ..))).set 0 (.slice (some ⟨l', 0, none⟩) (k + 1) c')
    exact this
  · rw [List.map_append]
    exact o4.eqb (hw5 l' gl.symm)
  · simp only [List.nodup_cons, List.mem_append, List.mem_singleton, not_or, List.nodup_append, List.not_mem_nil, not_false_eq_true, List.nodup_nil, true_and, and_true]
    refine ⟨⟨⟨gp, by omega⟩, gr, by omega⟩, ⟨ndp, ?_⟩, ⟨ndr, ?_⟩, ?_⟩
    · rintro a ha b rfl; have := old a (inp a ha); omega
    · rintro a ha b rfl; have := old a (inr' a ha); omega
    · rintro a (ha | rfl) b (hb2 | rfl)
      · exact dpr a ha b hb2
      · have := old a (inp a ha); omega
      · have := old b (inr' b hb2); omega
      · exact hpr
  · intro l e
    injection e with e; injection e with e; subst e
    refine ⟨hll.1, by rw [size5]; exact hll.2.2.2.2, ?_⟩
    have := hll.2.1
    simp only [List.mem_cons, List.mem_append, not_or, List.not_mem_nil, or_false] at this ⊢
    exact ⟨this.1, ⟨this.2.1, hll.2.2.1⟩, this.2.2, hll.2.2.2.1⟩
  · intro i p r hpi hri
    rcases Nat.lt_or_ge i k with hi | hi
    · rw [List.getElem?_append_left (by have := h.lp; omega)] at hpi
      rw [List.getElem?_append_left (by have := h.lr; omega)] at hri
      obtain ⟨c2, hc2⟩ := h.blk i p r hpi hri
      have mp := inp p (List.mem_of_getElem? hpi)
      have mr := inr' r (List.mem_of_getElem? hri)
      refine ⟨c2, hc2.eqb ?_ ?_⟩
      · rw [hw5 p (fun e => gp (e ▸ List.mem_of_getElem? hpi)), keepO p mp]
      · rw [hw5 r (fun e => gr (e ▸ List.mem_of_getElem? hri)), keepO r mr]
    · have hi2 : i = k := by
        have := (List.getElem?_eq_some_iff.1 hpi).1
        simp at this
        have := h.lp
        omega
      subst hi2
      rw [List.getElem?_append_right (by have := h.lp; omega)] at hpi
      rw [List.getElem?_append_right (by have := h.lr; omega)] at hri
      simp [h.lp] at hpi
      simp [h.lr] at hri
      subst hpi; subst hri
      refine ⟨cc, hb.eqb ?_ ?_⟩
      · rw [hw5 p1 (by omega), keep p1 hp.1 (fun l hl e => by have := (h.out l hl).2.1; omega)]
      · rw [hw5 r1 (by omega), keep r1 hp.2 (fun l hl e => by have := (h.out l hl).2.1; omega)]
  · intro x hx
    rw [size5]
    simp only [List.mem_cons, List.mem_append, List.not_mem_nil, or_false] at hx
    have ho : x ∈ g :: (ps ++ rs) → w.heap.size ≤ x ∧ x < w4.heap.size := fun hm => ⟨(h.new x hm).1, by have := (h.new x hm).2; omega⟩
    rcases hx with rfl | (hx | rfl) | hx | rfl
    · exact ho (List.mem_cons_self ..)
    · exact ho (inp x hx)
    · exact ⟨by omega, by have := hp.1; omega⟩
    · exact ho (inr' x hx)
    · exact ⟨by omega, by have := hp.2; omega⟩
end Go.Proofs.Ytmcgfnfhpcddlaa.Md


/- What model.New makes: the walk. -/
namespace Go.Proofs.Ytmcgfnfhpcddlaa.Md
open Go.RowKit Go.BW

def numN (n : Int) : Nat := (min (max n 1) 96).toNat
theorem numN_b (n : Int) : 1 ≤ numN n ∧ numN n ≤ 96 := by unfold numN; omega
def NewPost (N : Nat) (w : World) (e : Ending) (w' : World) : Prop := ∃ g F, e = .returned (pv g) ∧ Rep w' g (List.replicate N (z64b, false)) F 1 ∧ (∀ x ∈ F, w.heap.size ≤ x) ∧ Nw w w'
theorem NewR.rep {w wr : World} {g N l c : Nat} {ps rs : List Nat} (h : NewR w g N (some ⟨l, 0, none⟩) c ps rs wr) : ∃ F, Rep wr g (List.replicate N (z64b, false)) F 1 ∧ ∀ x ∈ F, w.heap.size ≤ x := by
  obtain ⟨o1, o2, _⟩ := h.out l rfl
  have nd := h.nd
  refine ⟨g :: l :: (ps ++ rs), ⟨l, c, ps, rs, rfl, ?_, ?_, ?_, by simp [h.lp], by simp [h.lr], ?_⟩, ?_⟩
  · have h3 := (h.out l rfl).2.2
    simp only [List.nodup_cons, List.mem_cons, not_or] at nd h3 ⊢
    exact ⟨⟨fun e => h3.1 e.symm, nd.1⟩, h3.2, nd.2⟩
  · rw [List.length_replicate]; exact h.obj
  · rw [List.length_replicate]; exact h.row
  · intro i b p r hb hp hr
    have : b = (z64b, false) := by
      have := List.mem_of_getElem? hb
      exact (List.mem_replicate.1 this).2
    subst this
    obtain ⟨cc, hc⟩ := h.blk i p r hp hr
    exact ⟨1, cc, hc, Nat.le_refl _⟩
  · intro x hx
    rcases List.mem_cons.1 hx with rfl | hx
    · exact (h.new _ (List.mem_cons_self ..)).1
    rcases List.mem_cons.1 hx with rfl | hx
    · exact o1
    · exact (h.new _ (List.mem_cons_of_mem _ hx)).1
def NewRel (w : World) (g N k : Nat) (wr : World) : Prop := k ≤ N ∧ ∃ A c ps rs, NewR w g k A c ps rs wr
theorem made64 : (madeCells z64.cells (1 * 64)).toList = z64b.map bv := by kernel_rfl
theorem run_exec_mk {P : Program} {t : TypeId} {o : Oper} {a : Act} {w w' : World} (l c : Operand) (hop : o.op = .makeSlice t l c) {x y v : Value} (hl : a.eval l = x) (hc : a.eval c = y) (h : (Instr.makeSlice t x y).run P w = .ok v w') :
    (execOp a.eval o).run P w = .ok (.value v) w' := by
  unfold execOp
  simp only [hop, hl, hc, Sem.run_bind, h, Result.andThen_ok, Sem.run_pure]
theorem make_one (w : World) : ∃ w', (Instr.makeSlice 30 (.int .i64 1) (.int .i64 1)).run Try.prog w = .ok (.slice (some ⟨w.heap.size, 0, none⟩) 1 1) w' ∧ Own w' 0 33 64 (some ⟨w.heap.size, 0, none⟩) 1 1 (z64b.map bv) ∧ Nw w w' := by
  obtain ⟨i, hi, hz, hsize, hby⟩ := T22.info
  obtain ⟨w', hrun, h2, h3⟩ := run_make_full (P := Try.prog) w 0 30 33 i z64 64 T22.und hi hz hsize .i64 .i64 1 (by rw [hby]; omega) (by unfold maxLen; omega) (Nat.zero_le _)
  rw [made64] at h2
  exact ⟨w', hrun, h2, h3⟩
set_option maxHeartbeats 1000000 in
set_option maxRecDepth 100000 in
theorem new_any (n : Int) (w : World) : Calls Try.prog 47 #[.int .i64 n] w (NewPost (numN n) w) := by
  obtain ⟨N, hN⟩ : ∃ N, numN n = N := ⟨_, rfl⟩
  have hb := numN_b n
  rw [hN] at hb ⊢
  obtain ⟨hb1, hb2⟩ := hb
  rcases (show n < 1 ∨ 96 < n ∨ (1 ≤ n ∧ n ≤ 96) from by omega) with h1 | h1 | ⟨h1, h2⟩
  · have EV := Lib.hid (show (1 : Int) = (N : Int) from by unfold numN at hN; omega)
    clear hN
    go_enter Try.func47, Try.ntmps47
    go_wp2_with fail
    obtain ⟨w1, hw1⟩ : ∃ w1, w1 = w.alloc (.cells #[.slice none 0 0] 120) := ⟨_, rfl⟩
    rw [← hw1]
    have r1 : NewR w w.heap.size 0 none 0 [] [] w1 := by
      rw [hw1]
      exact ⟨Obj1.new w _ _, ⟨rfl, .inl ⟨rfl, rfl⟩⟩, rfl, rfl, by simp, (fun l e => by cases e), (fun i p r e => by simp at e), (fun x hx => by simp at hx; subst hx; simp), World.grownBy_alloc w _ none⟩
    have R1 := Lib.hid r1; clear r1
    clear hw1
    go_loopw [9] (fun i wr => ∃ k : Nat, i = .int .i64 k ∧ NewRel w w.heap.size N k wr) (fun i _ => N - (intOf i).toNat)
    case atStart => exact ⟨0, rfl, Nat.zero_le _, _, _, _, _, R1.out⟩
    case round =>
      obtain ⟨k, rfl, hk, A, c, ps, rs, hr⟩ := hrel
      have HR := Lib.hid hr; clear hr
      by_cases hlt : (k : Int) < 1
      · have hcg : ∀ w', Nw wr w' → w'.cell? ⟨w.heap.size, 0, none⟩ = some (.slice A k c) := fun w' h2 => (HR.out.obj.nw h2).cell 0
        have hkN : k < N := by have := EV.out; omega
        go_wp2_with fail
        refine wp_region_U [9] (fun w' => Nw wr w') (by kernel_rfl) ?_
        change wpU _ _ _ _ _ _ _ _ _ (World.drew wr)
        refine U_segP (r := [0, 1, 2, 3]) (fuel := 9) rfl (by kernel_rfl) (by kernel_rfl) (by simp only [List.filterMap_cons, List.filterMap_nil, List.getElem?_toArray, List.getElem?_cons_succ, List.getElem?_cons_zero]; rfl) (fun _ _ d _ _ h => by cases d <;> exact h) (until_of (gb_drew (Nw.refl wr))) ?_
        iterate 4 (refine wpYield_step rfl (fun K hK => ?_)
                   apply Exists.intro
                   refine ⟨fun w' hw' => ?_, ?_⟩
                   · (go_simp; try with_reducible rfl)
                   go_simp
                   refine hK _ ?_
                   clear hK K)
        refine wpYield_nil ?_
        refine U_segL (r := [4]) (fuel := 8) rfl (by kernel_rfl) (by kernel_rfl) (by simp only [List.filterMap_cons, List.filterMap_nil, List.getElem?_toArray, List.getElem?_cons_succ, List.getElem?_cons_zero]; rfl) (fun _ _ d _ _ h => by cases d <;> exact h) (gb_drew (Nw.refl wr)) ?_
        (refine wpYield_step rfl (fun K hK => ?_)
         apply Exists.intro
         refine ⟨fun w' hw' => ?_, ?_⟩
         · (go_simp; try with_reducible rfl)
         go_simp
         refine hK _ ?_
         clear hK K)
        refine wpYield_nil ?_
        refine U_eff 5 rfl (by kernel_rfl) rfl (fun K hK => ?_)
        obtain ⟨w2, hrun, o2, n2⟩ := make_one wr.drew
        refine wp_ran (run_exec_mk _ _ rfl rfl rfl hrun) ?_
        refine hK _ _ ⟨until_of (gb_of_drew n2), ?_⟩
        clear hK K hrun
        refine U_segP (r := [6]) (fuel := 6) rfl (by kernel_rfl) (by kernel_rfl) (by simp only [List.filterMap_cons, List.filterMap_nil, List.getElem?_toArray, List.getElem?_cons_succ, List.getElem?_cons_zero]; rfl) (fun _ _ d _ _ h => by cases d <;> exact h) (until_of (gb_of_drew n2)) ?_
        (refine wpYield_step rfl (fun K hK => ?_)
         apply Exists.intro
         refine ⟨fun w' hw' => ?_, ?_⟩
         · (go_simp; try with_reducible rfl)
         go_simp
         refine hK _ ?_
         clear hK K)
        refine wpYield_nil ?_
        refine U_eff 7 rfl (by kernel_rfl) rfl (fun K hK => ?_)
        go_simp
        obtain ⟨w3, hw3⟩ : ∃ w3, w3 = w2.alloc (.cells #[.slice (some ⟨wr.heap.size, 0, none⟩) 1 1, .bool false] 123) := ⟨_, rfl⟩
        rw [← hw3]
        have n23 : Nw w2 w3 := by rw [hw3]; exact World.grownBy_alloc w2 _ none
        have n3 : Nw wr w3 := gb_trans (gb_of_drew n2) n23
        have bl : BlkAt w3 w2.heap.size wr.heap.size (z64b, false) 1 1 := ⟨by rw [hw3]; exact Obj1.new w2 _ _, o2.nw n23, by omega⟩
        have sz2 : wr.heap.size < w2.heap.size := by obtain ⟨cur, hc⟩ := o2.obj; exact hc.lt
        clear hw3 o2
        have BL := Lib.hid bl; clear bl
        refine hK _ _ ⟨until_of n3, ?_⟩
        clear hK K
        have N3 := Lib.hid n3; clear n3 n2 n23
        refine U_eff 8 rfl (by kernel_rfl) rfl (fun K hK => ?_)
        refine wp_ran (run_exec_buildSlice1 T50 _ rfl (v := pv w2.heap.size) rfl rfl (by omega)) ?_
        obtain ⟨w4, hw4⟩ : ∃ w4, w4 = w3.alloc (.cells (pv w2.heap.size).cells 121) := ⟨_, rfl⟩
        rw [← hw4]
        have n34 : Nw w3 w4 := by rw [hw4]; exact World.grownBy_alloc w3 _ none
        have r4 : Own w4 w3.heap.size 121 1 (some ⟨w3.heap.size, 0, none⟩) 1 1 [pv w2.heap.size] := by rw [hw4]; exact World.ownsRow_lit (e := 121) (size := 1) w3 #[pv w2.heap.size] 1 (Nat.le_refl _) (by unfold maxLen; omega) rfl
        clear hw4
        refine hK _ _ ⟨until_of (gb_trans N3.out n34), ?_⟩
        clear hK K
        have N4 := Lib.hid (gb_trans N3.out n34); have R4 := Lib.hid r4; clear r4
        have B4 := Lib.hid (BL.out.nw n34); clear n34 BL
        refine U_eff 9 rfl (by kernel_rfl) rfl (fun K hK => ?_)
        obtain ⟨A', c', w5, hrun, o5, g5, e5⟩ := run_app_own T50 118 (d := 1) (HR.out.row.nw N4.out) R4.out.rd (by intro u hu; simp at hu; subst hu; rfl) (by omega) (by unfold maxLen; omega) (Nat.zero_le _)
        refine wp_ran (run_exec_append rfl hrun) ?_
        refine hK _ _ ⟨until_past (by kernel_rfl), ?_⟩
        clear hK K hrun
        obtain ⟨l', rfl, _⟩ := o5.some_ (by omega)
        have st := NewR.step HR.out N4.out (Nat.le_refl _) (by omega) (by omega) B4.out g5 o5 e5
        have ob5 : Obj1 w5 w.heap.size 120 #[.slice A k c] := (HR.out.obj.nw N4.out).eq (g5.block _ (by have := HR.out.obj.lt; have := N4.out.size; omega) (by
          intro e
          rcases HR.out.row.2 with ⟨h2, _⟩ | ⟨g', cap, cur, hv, _⟩
          · injection h2 with h2; subst h2; simp [Value.ownBlock] at e
          · injection hv with hv; subst hv; simp [Value.ownBlock] at e; exact (HR.out.out _ rfl).2.2 (e ▸ List.mem_cons_self ..)))
        have c5 := ob5.cell 0
        have f5 := ob5.frozen 0
        rw [show (#[Value.slice A k c])[0]? = some (.slice A k c) from rfl] at c5
        have ST := Lib.hid st; clear st o5 g5 e5 ob5 N4 N3 B4 R4 HR hcg
        refine U_segP (r := [10, 11]) (fuel := 1) rfl (by kernel_rfl) (by kernel_rfl) (by simp only [List.filterMap_cons, List.filterMap_nil, List.getElem?_toArray, List.getElem?_cons_succ, List.getElem?_cons_zero]; rfl) (fun _ _ d _ _ h => by cases d <;> exact h) (until_past (by kernel_rfl)) ?_
        iterate 2 (refine wpYield_step rfl (fun K hK => ?_)
                   apply Exists.intro
                   refine ⟨fun w' hw' => ?_, ?_⟩
                   · (go_simp; try with_reducible rfl)
                   go_simp
                   refine hK _ ?_
                   clear hK K)
        refine wpYield_nil ?_
        refine U_eff 12 rfl (by kernel_rfl) rfl (fun K hK => ?_)
        go_simp
        refine hK _ _ ⟨until_past (by kernel_rfl), ?_⟩
        clear hK K
        refine U_done (by kernel_rfl) ?_ _
        go_wp2
        exact ⟨⟨k + 1, rfl, hkN, _, _, _, _, ST.out⟩, by simp [intOf]; omega⟩
      · have hk' : k = N := by have := EV.out; omega
        go_wp2
        go_ret
        subst hk'
        rcases A with _ | a
        · rcases HR.out.row.2 with ⟨h2, h3⟩ | ⟨g', cap, cur, hv, _⟩
          · omega
          · injection hv with hv; cases hv
        · obtain ⟨l, he, _⟩ := HR.out.row.some_ (by omega)
          rw [he] at HR
          obtain ⟨F, h5, h6⟩ := NewR.rep HR.out
          exact ⟨_, F, rfl, h5, h6, HR.out.nw⟩
  · have EV := Lib.hid (show (96 : Int) = (N : Int) from by unfold numN at hN; omega)
    clear hN
    go_enter Try.func47, Try.ntmps47
    go_wp2_with fail
    obtain ⟨w1, hw1⟩ : ∃ w1, w1 = w.alloc (.cells #[.slice none 0 0] 120) := ⟨_, rfl⟩
    rw [← hw1]
    have r1 : NewR w w.heap.size 0 none 0 [] [] w1 := by
      rw [hw1]
      exact ⟨Obj1.new w _ _, ⟨rfl, .inl ⟨rfl, rfl⟩⟩, rfl, rfl, by simp, (fun l e => by cases e), (fun i p r e => by simp at e), (fun x hx => by simp at hx; subst hx; simp), World.grownBy_alloc w _ none⟩
    have R1 := Lib.hid r1; clear r1
    clear hw1
    go_loopw [9] (fun i wr => ∃ k : Nat, i = .int .i64 k ∧ NewRel w w.heap.size N k wr) (fun i _ => N - (intOf i).toNat)
    case atStart => exact ⟨0, rfl, Nat.zero_le _, _, _, _, _, R1.out⟩
    case round =>
      obtain ⟨k, rfl, hk, A, c, ps, rs, hr⟩ := hrel
      have HR := Lib.hid hr; clear hr
      by_cases hlt : (k : Int) < 96
      · have hcg : ∀ w', Nw wr w' → w'.cell? ⟨w.heap.size, 0, none⟩ = some (.slice A k c) := fun w' h2 => (HR.out.obj.nw h2).cell 0
        have hkN : k < N := by have := EV.out; omega
        go_wp2_with fail
        refine wp_region_U [9] (fun w' => Nw wr w') (by kernel_rfl) ?_
        change wpU _ _ _ _ _ _ _ _ _ (World.drew wr)
        refine U_segP (r := [0, 1, 2, 3]) (fuel := 9) rfl (by kernel_rfl) (by kernel_rfl) (by simp only [List.filterMap_cons, List.filterMap_nil, List.getElem?_toArray, List.getElem?_cons_succ, List.getElem?_cons_zero]; rfl) (fun _ _ d _ _ h => by cases d <;> exact h) (until_of (gb_drew (Nw.refl wr))) ?_
        iterate 4 (refine wpYield_step rfl (fun K hK => ?_)
                   apply Exists.intro
                   refine ⟨fun w' hw' => ?_, ?_⟩
                   · (go_simp; try with_reducible rfl)
                   go_simp
                   refine hK _ ?_
                   clear hK K)
        refine wpYield_nil ?_
        refine U_segL (r := [4]) (fuel := 8) rfl (by kernel_rfl) (by kernel_rfl) (by simp only [List.filterMap_cons, List.filterMap_nil, List.getElem?_toArray, List.getElem?_cons_succ, List.getElem?_cons_zero]; rfl) (fun _ _ d _ _ h => by cases d <;> exact h) (gb_drew (Nw.refl wr)) ?_
        (refine wpYield_step rfl (fun K hK => ?_)
         apply Exists.intro
         refine ⟨fun w' hw' => ?_, ?_⟩
         · (go_simp; try with_reducible rfl)
         go_simp
         refine hK _ ?_
         clear hK K)
        refine wpYield_nil ?_
        refine U_eff 5 rfl (by kernel_rfl) rfl (fun K hK => ?_)
        obtain ⟨w2, hrun, o2, n2⟩ := make_one wr.drew
        refine wp_ran (run_exec_mk _ _ rfl rfl rfl hrun) ?_
        refine hK _ _ ⟨until_of (gb_of_drew n2), ?_⟩
        clear hK K hrun
        refine U_segP (r := [6]) (fuel := 6) rfl (by kernel_rfl) (by kernel_rfl) (by simp only [List.filterMap_cons, List.filterMap_nil, List.getElem?_toArray, List.getElem?_cons_succ, List.getElem?_cons_zero]; rfl) (fun _ _ d _ _ h => by cases d <;> exact h) (until_of (gb_of_drew n2)) ?_
        (refine wpYield_step rfl (fun K hK => ?_)
         apply Exists.intro
         refine ⟨fun w' hw' => ?_, ?_⟩
         · (go_simp; try with_reducible rfl)
         go_simp
         refine hK _ ?_
         clear hK K)
        refine wpYield_nil ?_
        refine U_eff 7 rfl (by kernel_rfl) rfl (fun K hK => ?_)
        go_simp
        obtain ⟨w3, hw3⟩ : ∃ w3, w3 = w2.alloc (.cells #[.slice (some ⟨wr.heap.size, 0, none⟩) 1 1, .bool false] 123) := ⟨_, rfl⟩
        rw [← hw3]
        have n23 : Nw w2 w3 := by rw [hw3]; exact World.grownBy_alloc w2 _ none
        have n3 : Nw wr w3 := gb_trans (gb_of_drew n2) n23
        have bl : BlkAt w3 w2.heap.size wr.heap.size (z64b, false) 1 1 := ⟨by rw [hw3]; exact Obj1.new w2 _ _, o2.nw n23, by omega⟩
        have sz2 : wr.heap.size < w2.heap.size := by obtain ⟨cur, hc⟩ := o2.obj; exact hc.lt
        clear hw3 o2
        have BL := Lib.hid bl; clear bl
        refine hK _ _ ⟨until_of n3, ?_⟩
        clear hK K
        have N3 := Lib.hid n3; clear n3 n2 n23
        refine U_eff 8 rfl (by kernel_rfl) rfl (fun K hK => ?_)
        refine wp_ran (run_exec_buildSlice1 T50 _ rfl (v := pv w2.heap.size) rfl rfl (by omega)) ?_
        obtain ⟨w4, hw4⟩ : ∃ w4, w4 = w3.alloc (.cells (pv w2.heap.size).cells 121) := ⟨_, rfl⟩
        rw [← hw4]
        have n34 : Nw w3 w4 := by rw [hw4]; exact World.grownBy_alloc w3 _ none
        have r4 : Own w4 w3.heap.size 121 1 (some ⟨w3.heap.size, 0, none⟩) 1 1 [pv w2.heap.size] := by rw [hw4]; exact World.ownsRow_lit (e := 121) (size := 1) w3 #[pv w2.heap.size] 1 (Nat.le_refl _) (by unfold maxLen; omega) rfl
        clear hw4
        refine hK _ _ ⟨until_of (gb_trans N3.out n34), ?_⟩
        clear hK K
        have N4 := Lib.hid (gb_trans N3.out n34); have R4 := Lib.hid r4; clear r4
        have B4 := Lib.hid (BL.out.nw n34); clear n34 BL
        refine U_eff 9 rfl (by kernel_rfl) rfl (fun K hK => ?_)
        obtain ⟨A', c', w5, hrun, o5, g5, e5⟩ := run_app_own T50 118 (d := 1) (HR.out.row.nw N4.out) R4.out.rd (by intro u hu; simp at hu; subst hu; rfl) (by omega) (by unfold maxLen; omega) (Nat.zero_le _)
        refine wp_ran (run_exec_append rfl hrun) ?_
        refine hK _ _ ⟨until_past (by kernel_rfl), ?_⟩
        clear hK K hrun
        obtain ⟨l', rfl, _⟩ := o5.some_ (by omega)
        have st := NewR.step HR.out N4.out (Nat.le_refl _) (by omega) (by omega) B4.out g5 o5 e5
        have ob5 : Obj1 w5 w.heap.size 120 #[.slice A k c] := (HR.out.obj.nw N4.out).eq (g5.block _ (by have := HR.out.obj.lt; have := N4.out.size; omega) (by
          intro e
          rcases HR.out.row.2 with ⟨h2, _⟩ | ⟨g', cap, cur, hv, _⟩
          · injection h2 with h2; subst h2; simp [Value.ownBlock] at e
          · injection hv with hv; subst hv; simp [Value.ownBlock] at e; exact (HR.out.out _ rfl).2.2 (e ▸ List.mem_cons_self ..)))
        have c5 := ob5.cell 0
        have f5 := ob5.frozen 0
        rw [show (#[Value.slice A k c])[0]? = some (.slice A k c) from rfl] at c5
        have ST := Lib.hid st; clear st o5 g5 e5 ob5 N4 N3 B4 R4 HR hcg
        refine U_segP (r := [10, 11]) (fuel := 1) rfl (by kernel_rfl) (by kernel_rfl) (by simp only [List.filterMap_cons, List.filterMap_nil, List.getElem?_toArray, List.getElem?_cons_succ, List.getElem?_cons_zero]; rfl) (fun _ _ d _ _ h => by cases d <;> exact h) (until_past (by kernel_rfl)) ?_
        iterate 2 (refine wpYield_step rfl (fun K hK => ?_)
                   apply Exists.intro
                   refine ⟨fun w' hw' => ?_, ?_⟩
                   · (go_simp; try with_reducible rfl)
                   go_simp
                   refine hK _ ?_
                   clear hK K)
        refine wpYield_nil ?_
        refine U_eff 12 rfl (by kernel_rfl) rfl (fun K hK => ?_)
        go_simp
        refine hK _ _ ⟨until_past (by kernel_rfl), ?_⟩
        clear hK K
        refine U_done (by kernel_rfl) ?_ _
        go_wp2
        exact ⟨⟨k + 1, rfl, hkN, _, _, _, _, ST.out⟩, by simp [intOf]; omega⟩
      · have hk' : k = N := by have := EV.out; omega
        go_wp2
        go_ret
        subst hk'
        rcases A with _ | a
        · rcases HR.out.row.2 with ⟨h2, h3⟩ | ⟨g', cap, cur, hv, _⟩
          · omega
          · injection hv with hv; cases hv
        · obtain ⟨l, he, _⟩ := HR.out.row.some_ (by omega)
          rw [he] at HR
          obtain ⟨F, h5, h6⟩ := NewR.rep HR.out
          exact ⟨_, F, rfl, h5, h6, HR.out.nw⟩
  · have EV := Lib.hid (show (n : Int) = (N : Int) from by unfold numN at hN; omega)
    clear hN
    go_enter Try.func47, Try.ntmps47
    go_wp2_with fail
    obtain ⟨w1, hw1⟩ : ∃ w1, w1 = w.alloc (.cells #[.slice none 0 0] 120) := ⟨_, rfl⟩
    rw [← hw1]
    have r1 : NewR w w.heap.size 0 none 0 [] [] w1 := by
      rw [hw1]
      exact ⟨Obj1.new w _ _, ⟨rfl, .inl ⟨rfl, rfl⟩⟩, rfl, rfl, by simp, (fun l e => by cases e), (fun i p r e => by simp at e), (fun x hx => by simp at hx; subst hx; simp), World.grownBy_alloc w _ none⟩
    have R1 := Lib.hid r1; clear r1
    clear hw1
    go_loopw [9] (fun i wr => ∃ k : Nat, i = .int .i64 k ∧ NewRel w w.heap.size N k wr) (fun i _ => N - (intOf i).toNat)
    case atStart => exact ⟨0, rfl, Nat.zero_le _, _, _, _, _, R1.out⟩
    case round =>
      obtain ⟨k, rfl, hk, A, c, ps, rs, hr⟩ := hrel
      have HR := Lib.hid hr; clear hr
      by_cases hlt : (k : Int) < n
      · have hcg : ∀ w', Nw wr w' → w'.cell? ⟨w.heap.size, 0, none⟩ = some (.slice A k c) := fun w' h2 => (HR.out.obj.nw h2).cell 0
        have hkN : k < N := by have := EV.out; omega
        go_wp2_with fail
        refine wp_region_U [9] (fun w' => Nw wr w') (by kernel_rfl) ?_
        change wpU _ _ _ _ _ _ _ _ _ (World.drew wr)
        refine U_segP (r := [0, 1, 2, 3]) (fuel := 9) rfl (by kernel_rfl) (by kernel_rfl) (by simp only [List.filterMap_cons, List.filterMap_nil, List.getElem?_toArray, List.getElem?_cons_succ, List.getElem?_cons_zero]; rfl) (fun _ _ d _ _ h => by cases d <;> exact h) (until_of (gb_drew (Nw.refl wr))) ?_
        iterate 4 (refine wpYield_step rfl (fun K hK => ?_)
                   apply Exists.intro
                   refine ⟨fun w' hw' => ?_, ?_⟩
                   · (go_simp; try with_reducible rfl)
                   go_simp
                   refine hK _ ?_
                   clear hK K)
        refine wpYield_nil ?_
        refine U_segL (r := [4]) (fuel := 8) rfl (by kernel_rfl) (by kernel_rfl) (by simp only [List.filterMap_cons, List.filterMap_nil, List.getElem?_toArray, List.getElem?_cons_succ, List.getElem?_cons_zero]; rfl) (fun _ _ d _ _ h => by cases d <;> exact h) (gb_drew (Nw.refl wr)) ?_
        (refine wpYield_step rfl (fun K hK => ?_)
         apply Exists.intro
         refine ⟨fun w' hw' => ?_, ?_⟩
         · (go_simp; try with_reducible rfl)
         go_simp
         refine hK _ ?_
         clear hK K)
        refine wpYield_nil ?_
        refine U_eff 5 rfl (by kernel_rfl) rfl (fun K hK => ?_)
        obtain ⟨w2, hrun, o2, n2⟩ := make_one wr.drew
        refine wp_ran (run_exec_mk _ _ rfl rfl rfl hrun) ?_
        refine hK _ _ ⟨until_of (gb_of_drew n2), ?_⟩
        clear hK K hrun
        refine U_segP (r := [6]) (fuel := 6) rfl (by kernel_rfl) (by kernel_rfl) (by simp only [List.filterMap_cons, List.filterMap_nil, List.getElem?_toArray, List.getElem?_cons_succ, List.getElem?_cons_zero]; rfl) (fun _ _ d _ _ h => by cases d <;> exact h) (until_of (gb_of_drew n2)) ?_
        (refine wpYield_step rfl (fun K hK => ?_)
         apply Exists.intro
         refine ⟨fun w' hw' => ?_, ?_⟩
         · (go_simp; try with_reducible rfl)
         go_simp
         refine hK _ ?_
         clear hK K)
        refine wpYield_nil ?_
        refine U_eff 7 rfl (by kernel_rfl) rfl (fun K hK => ?_)
        go_simp
        obtain ⟨w3, hw3⟩ : ∃ w3, w3 = w2.alloc (.cells #[.slice (some ⟨wr.heap.size, 0, none⟩) 1 1, .bool false] 123) := ⟨_, rfl⟩
        rw [← hw3]
        have n23 : Nw w2 w3 := by rw [hw3]; exact World.grownBy_alloc w2 _ none
        have n3 : Nw wr w3 := gb_trans (gb_of_drew n2) n23
        have bl : BlkAt w3 w2.heap.size wr.heap.size (z64b, false) 1 1 := ⟨by rw [hw3]; exact Obj1.new w2 _ _, o2.nw n23, by omega⟩
        have sz2 : wr.heap.size < w2.heap.size := by obtain ⟨cur, hc⟩ := o2.obj; exact hc.lt
        clear hw3 o2
        have BL := Lib.hid bl; clear bl
        refine hK _ _ ⟨until_of n3, ?_⟩
        clear hK K
        have N3 := Lib.hid n3; clear n3 n2 n23
        refine U_eff 8 rfl (by kernel_rfl) rfl (fun K hK => ?_)
        refine wp_ran (run_exec_buildSlice1 T50 _ rfl (v := pv w2.heap.size) rfl rfl (by omega)) ?_
        obtain ⟨w4, hw4⟩ : ∃ w4, w4 = w3.alloc (.cells (pv w2.heap.size).cells 121) := ⟨_, rfl⟩
        rw [← hw4]
        have n34 : Nw w3 w4 := by rw [hw4]; exact World.grownBy_alloc w3 _ none
        have r4 : Own w4 w3.heap.size 121 1 (some ⟨w3.heap.size, 0, none⟩) 1 1 [pv w2.heap.size] := by rw [hw4]; exact World.ownsRow_lit (e := 121) (size := 1) w3 #[pv w2.heap.size] 1 (Nat.le_refl _) (by unfold maxLen; omega) rfl
        clear hw4
        refine hK _ _ ⟨until_of (gb_trans N3.out n34), ?_⟩
        clear hK K
        have N4 := Lib.hid (gb_trans N3.out n34); have R4 := Lib.hid r4; clear r4
        have B4 := Lib.hid (BL.out.nw n34); clear n34 BL
        refine U_eff 9 rfl (by kernel_rfl) rfl (fun K hK => ?_)
        obtain ⟨A', c', w5, hrun, o5, g5, e5⟩ := run_app_own T50 118 (d := 1) (HR.out.row.nw N4.out) R4.out.rd (by intro u hu; simp at hu; subst hu; rfl) (by omega) (by unfold maxLen; omega) (Nat.zero_le _)
        refine wp_ran (run_exec_append rfl hrun) ?_
        refine hK _ _ ⟨until_past (by kernel_rfl), ?_⟩
        clear hK K hrun
        obtain ⟨l', rfl, _⟩ := o5.some_ (by omega)
        have st := NewR.step HR.out N4.out (Nat.le_refl _) (by omega) (by omega) B4.out g5 o5 e5
        have ob5 : Obj1 w5 w.heap.size 120 #[.slice A k c] := (HR.out.obj.nw N4.out).eq (g5.block _ (by have := HR.out.obj.lt; have := N4.out.size; omega) (by
          intro e
          rcases HR.out.row.2 with ⟨h2, _⟩ | ⟨g', cap, cur, hv, _⟩
          · injection h2 with h2; subst h2; simp [Value.ownBlock] at e
          · injection hv with hv; subst hv; simp [Value.ownBlock] at e; exact (HR.out.out _ rfl).2.2 (e ▸ List.mem_cons_self ..)))
        have c5 := ob5.cell 0
        have f5 := ob5.frozen 0
        rw [show (#[Value.slice A k c])[0]? = some (.slice A k c) from rfl] at c5
        have ST := Lib.hid st; clear st o5 g5 e5 ob5 N4 N3 B4 R4 HR hcg
        refine U_segP (r := [10, 11]) (fuel := 1) rfl (by kernel_rfl) (by kernel_rfl) (by simp only [List.filterMap_cons, List.filterMap_nil, List.getElem?_toArray, List.getElem?_cons_succ, List.getElem?_cons_zero]; rfl) (fun _ _ d _ _ h => by cases d <;> exact h) (until_past (by kernel_rfl)) ?_
        iterate 2 (refine wpYield_step rfl (fun K hK => ?_)
                   apply Exists.intro
                   refine ⟨fun w' hw' => ?_, ?_⟩
                   · (go_simp; try with_reducible rfl)
                   go_simp
                   refine hK _ ?_
                   clear hK K)
        refine wpYield_nil ?_
        refine U_eff 12 rfl (by kernel_rfl) rfl (fun K hK => ?_)
        go_simp
        refine hK _ _ ⟨until_past (by kernel_rfl), ?_⟩
        clear hK K
        refine U_done (by kernel_rfl) ?_ _
        go_wp2
        exact ⟨⟨k + 1, rfl, hkN, _, _, _, _, ST.out⟩, by simp [intOf]; omega⟩
      · have hk' : k = N := by have := EV.out; omega
        go_wp2
        go_ret
        subst hk'
        rcases A with _ | a
        · rcases HR.out.row.2 with ⟨h2, h3⟩ | ⟨g', cap, cur, hv, _⟩
          · omega
          · injection hv with hv; cases hv
        · obtain ⟨l, he, _⟩ := HR.out.row.some_ (by omega)
          rw [he] at HR
          obtain ⟨F, h5, h6⟩ := NewR.rep HR.out
          exact ⟨_, F, rfl, h5, h6, HR.out.nw⟩
end Go.Proofs.Ytmcgfnfhpcddlaa.Md


/- What the model's Settle does. -/
namespace Go.Proofs.Ytmcgfnfhpcddlaa.Md
open Go.RowKit Go.BW

def mayOf (b : List UInt8 × Bool) (s : List UInt8) : Bool := if b.2 then hasB b.1 s else decide (lastB b.1 = s)
def settleB (b : List UInt8 × Bool) (s : List UInt8) : List UInt8 × Bool := if mayOf b s && b.2 then (s, false) else b
theorem Post.same {w w' : World} {g Z : Nat} {M : List (List UInt8 × Bool)} {F : List Nat} (h : Rep w g M F Z) (n : Nw w w') (v : Value) : Post v g M F Z w (.returned v) w' :=
  ⟨rfl, F, h.nw n, Chg.of_nw n, fun _ h => .inl h⟩
theorem set_same {α : Type} (M : List α) (i : Nat) (b : α) (hb : M[i]? = some b) : M.set i b = M := by
  obtain ⟨h, e⟩ := List.getElem?_eq_some_iff.1 hb
  rw [← e]; exact List.set_getElem_self h
set_option maxRecDepth 100000 in
theorem settle_bad {w : World} {g Z : Nat} {M : List (List UInt8 × Bool)} {F : List Nat} (h : Rep w g M F Z) (n : Int) (hn : Bad M n) (s : List UInt8) (hs : s.length = 64) :
    Calls Try.prog 62 #[pv g, .int .i64 n, sv s] w (Post (.bool false) g M F Z w) := by
  have HM := fun (w1 : World) (n1 : Nw w w1) => may_bad (h.nw n1) n hn s hs
  unfold sv at HM ⊢
  unfold pv at HM ⊢
  have HM' := Lib.hid HM; clear HM
  have HR := Lib.hid h; clear h
  have HN := Lib.hid hn; clear hn
  have HS := Lib.hid hs; clear hs
  go_enter Try.func62, Try.ntmps62
  go_wp2_with (first | (refine wpList_load_agg 33 _ rfl rfl rfl (s.map bv) (fun j u hu => by rw [Nat.zero_add, (Obj1.new w 33 (s.map bv).toArray).cell j]; simpa using hu) _ Try.underlying33 rfl (i27.trans (by rw [List.length_map, HS.out])) ?_) |
    (refine (HM'.out _ (World.grownBy_alloc w _ none)).mono ?_; rintro e w2 ⟨rfl, n2⟩; have n2' := Lib.hid (gb_trans (World.grownBy_alloc w _ none) n2); clear n2))
  go_ret
  exact Post.same HR.out n2'.out _
set_option maxHeartbeats 1000000 in
set_option maxRecDepth 100000 in
theorem settle_in {w : World} {g Z : Nat} {M : List (List UInt8 × Bool)} {F : List Nat} (h : Rep w g M F Z) (hZ : Z ≤ 1000) (i : Nat) (b : List UInt8 × Bool) (hb : M[i]? = some b) (s : List UInt8) (hs : s.length = 64) :
    Calls Try.prog 62 #[pv g, .int .i64 i, sv s] w (Post (.bool (mayOf b s)) g (M.set i (settleB b s)) F Z w) := by
  obtain ⟨l, c, ho⟩ := h.obj
  have hi := (List.getElem?_eq_some_iff.1 hb).1
  obtain ⟨p, r, b', n, cc, A⟩ := h.at ho hi
  have hbb : b' = b := by have := A.elt; rw [hb] at this; injection this with this; exact this.symm
  subst hbb
  have HA := Lib.hid A; clear A
  have HT := fun (w1 : World) (n1 : Nw w w1) => the_some (ho.nw n1) i p hi (n1.cell HA.out.cell (by simp))
  have HM : ∀ w1, Nw w w1 → Calls Try.prog 74 #[pv g, .int .i64 i, sv s] w1 (Ret (.bool (mayOf b' s)) w1) := fun (w1 : World) (n1 : Nw w w1) => may_in (h.nw n1) hZ i b' hb s hs
  have hcp : ∀ w', Nw w w' → w'.cell? ⟨p, 0, none⟩ = some (.slice (some ⟨r, 0, none⟩) n cc) := fun w' h2 => (HA.out.blk.obj.nw h2).cell 0
  have hfp : ∀ w', Nw w w' → w'.frozen? ⟨p, 0, none⟩ = false := fun w' h2 => (HA.out.blk.obj.nw h2).frozen 0
  have hcp1 : ∀ w', Nw w w' → w'.cell? ⟨p, 1, none⟩ = some (.bool b'.2) := fun w' h2 => (HA.out.blk.obj.nw h2).cell 1
  have hfp1 : ∀ w', Nw w w' → w'.frozen? ⟨p, 1, none⟩ = false := fun w' h2 => (HA.out.blk.obj.nw h2).frozen 1
  obtain ⟨R, hR⟩ : ∃ R, mayOf b' s = R := ⟨_, rfl⟩
  obtain ⟨O, hO⟩ : ∃ O, b'.2 = O := ⟨_, rfl⟩
  obtain ⟨T, hT⟩ : ∃ T, settleB b' s = T := ⟨_, rfl⟩
  have hT2 : T = if R && O then (s, false) else b' := by rw [← hT, ← hR, ← hO]; rfl
  rw [hR] at HM ⊢
  rw [hT]
  rw [hO] at hcp1
  unfold sv at HM ⊢
  unfold pv at HT HM ⊢
  have HT' := Lib.hid HT; clear HT
  have HM' := Lib.hid HM; clear HM
  have HR := Lib.hid h; clear h
  have HB := Lib.hid hb; clear hb
  have HS := Lib.hid hs; clear hs
  have HO := Lib.hid hO; clear hO
  have HTT := Lib.hid hT2; clear hT2
  clear hR hT ho hi hZ
  rcases R with _ | _
  · go_enter Try.func62, Try.ntmps62
    go_wp2_with (first | (refine wpList_load_agg 33 _ rfl rfl rfl (s.map bv) (fun j u hu => by rw [Nat.zero_add, (Obj1.new w 33 (s.map bv).toArray).cell j]; simpa using hu) _ Try.underlying33 rfl (i27.trans (by rw [List.length_map, HS.out])) ?_) |
      (refine (HM'.out _ (World.grownBy_alloc w _ none)).mono ?_; rintro e w2 ⟨rfl, n2⟩; have n2' := Lib.hid (gb_trans (World.grownBy_alloc w _ none) n2); clear n2))
    go_ret
    have := HTT.out
    simp at this
    rw [this, set_same M i b' HB.out]
    exact Post.same HR.out n2'.out _
  · rcases O with _ | _
    · go_enter Try.func62, Try.ntmps62
      go_wp2_with (first | (refine wpList_load_agg 33 _ rfl rfl rfl (s.map bv) (fun j u hu => by rw [Nat.zero_add, (Obj1.new w 33 (s.map bv).toArray).cell j]; simpa using hu) _ Try.underlying33 rfl (i27.trans (by rw [List.length_map, HS.out])) ?_) |
        (refine (HM'.out _ (World.grownBy_alloc w _ none)).mono ?_; rintro e w2 ⟨rfl, n2⟩; have n2' := (gb_trans (World.grownBy_alloc w _ none) n2); clear n2) | (refine (HT'.out w2 n2').mono ?_; rintro e w3 ⟨rfl, rfl⟩))
      go_ret
      have := HTT.out
      simp at this
      rw [this, set_same M i b' HB.out]
      exact Post.same HR.out n2' _
    · go_enter Try.func62, Try.ntmps62
      go_wp2_with (first | (refine wpList_load_agg 33 _ rfl rfl rfl (s.map bv) (fun j u hu => by rw [Nat.zero_add, (Obj1.new w 33 (s.map bv).toArray).cell j]; simpa using hu) _ Try.underlying33 rfl (i27.trans (by rw [List.length_map, HS.out])) ?_) |
        (refine (HM'.out _ (World.grownBy_alloc w _ none)).mono ?_; rintro e w2 ⟨rfl, n2⟩; have OB2 := Lib.hid ((Obj1.new w 33 (s.map bv).toArray).nw n2); have n2' := (gb_trans (World.grownBy_alloc w _ none) n2); clear n2) | (refine (HT'.out w2 n2').mono ?_; rintro e w3 ⟨rfl, rfl⟩) |
        (refine wpList_load_agg 33 _ rfl rfl rfl (s.map bv) (fun j u hu => by rw [Nat.zero_add, OB2.out.cell j]; simpa using hu) _ Try.underlying33 rfl (i27.trans (by rw [List.length_map, HS.out])) ?_) |
        (refine wpList_buildSlice1 T22 _ rfl rfl (v := .agg (s.map bv).toArray) rfl (by simp [Value.cells, HS.out]) (by omega) ?_; obtain ⟨w3, hw3⟩ : ∃ w3, w3 = w2.alloc (.cells (Value.agg (s.map bv).toArray).cells 33) := ⟨_, rfl⟩; rw [← hw3];
            have n3 : Nw w w3 := by rw [hw3]; exact gb_alloc n2' _); have o3 := Lib.hid (own_lit w2 _ (by rw [List.length_map, HS.out]) hw3); clear hw3)
      go_ret
      have := HTT.out
      simp at this
      subst this
      have hs2 := n2'.size
      have hlt2 := HA.out.blk.lt.1
      have b5 := ((HA.out.blk.nw n3).allSet (r' := w2.heap.size) (by omega) (o3.out.more (Nat.zero_le _)) (by omega)).openSet (by omega) false
      have ch : Chg w ((w3.setCell ⟨p, 0, none⟩ (.slice (some ⟨w2.heap.size, 0, none⟩) 1 1)).setCell ⟨p, 1, none⟩ (.bool false)) [p, r] :=
        ((Chg.of_nw n3).trans (Chg.set w3 (List.mem_cons_self ..) _) (fun x hx => .inl hx)).trans (Chg.set _ (List.mem_cons_self ..) _) (fun x hx => .inl hx)
      obtain ⟨F2, h2, h3⟩ := HA.out.upd _ w2.heap.size (s, false) 1 1 Z ch b5 (Nat.le_trans HA.out.blk.pos HA.out.small) (Nat.le_refl _) (.inr hs2)
      have hp := HA.out.pF
      have hr := HA.out.rF
      exact ⟨rfl, F2, h2, ch.wide (by intro x hx; simp at hx; rcases hx with rfl | rfl <;> assumption), h3⟩
end Go.Proofs.Ytmcgfnfhpcddlaa.Md

