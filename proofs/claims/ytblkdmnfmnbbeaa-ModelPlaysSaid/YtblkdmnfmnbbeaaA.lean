/- How a model of blocks lies in memory, and what changes there; each lemma under the premises that it states. -/
import Derived.Test.YtblkdmnfmnbbeaaProg
import Derived.Test.YtblkdmnfmnbbeaaLib
namespace Go.Proofs.Ytblkdmnfmnbbeaa
open Go.RowKit Go.BW

def z64 : Value := .agg (Array.replicate 64 (.int .u8 0))
theorem T22 : El Try.prog 22 27 z64 64 64 := El.mk' Try.underlying22 (by kernel_rfl) (by simp [z64, Value.cells]) (by decide)
theorem T50 : El Try.prog 50 53 (.pointer none) 1 8 := El.mk' Try.underlying50 (by kernel_rfl) rfl (by decide)
theorem bv_one (bs : List UInt8) : ∀ u ∈ bs.map bv, u.oneCell' = true := by intro u hu; obtain ⟨x, _, rfl⟩ := List.mem_map.1 hu; rfl

def pv (p : Nat) : Value := .pointer (some ⟨p, 0, none⟩)
/-- one block's object at p, its row at r: all its sectors, and whether it is open -/
structure BlkAt (w : World) (p r : Nat) (b : List UInt8 × Bool) (n c : Nat) : Prop where
  obj : Obj1 w p 55 #[.slice (some ⟨r, 0, none⟩) n c, .bool b.2]
  row : Own w 0 27 64 (some ⟨r, 0, none⟩) n c (b.1.map bv)
  pos : 0 < n
/-- a model at g, with the blocks F of memory -/
def Rep (w : World) (g : Nat) (M : List (List UInt8 × Bool)) (F : List Nat) (K : Nat) : Prop :=
  ∃ (l c : Nat) (ps rs : List Nat), F = g :: l :: (ps ++ rs) ∧ F.Nodup ∧ Obj1 w g 52 #[.slice (some ⟨l, 0, none⟩) M.length c] ∧ Own w 0 53 1 (some ⟨l, 0, none⟩) M.length c (ps.map pv) ∧
    ps.length = M.length ∧ rs.length = M.length ∧ ∀ (i : Nat) (b : List UInt8 × Bool) (p r : Nat), M[i]? = some b → ps[i]? = some p → rs[i]? = some r → ∃ n cc, BlkAt w p r b n cc ∧ n ≤ K

section
variable {w w' : World} {g : Nat} {M : List (List UInt8 × Bool)} {F G : List Nat} {K : Nat}
theorem BlkAt.eqb {p r n c : Nat} {b : List UInt8 × Bool} (h : BlkAt w p r b n c) (h1 : w'.heap[p]? = w.heap[p]?) (h2 : w'.heap[r]? = w.heap[r]?) : BlkAt w' p r b n c :=
  ⟨h.obj.eq h1, h.row.eqb h2, h.pos⟩
theorem BlkAt.lt {p r n c : Nat} {b : List UInt8 × Bool} (h : BlkAt w p r b n c) : p < w.heap.size ∧ r < w.heap.size :=
  ⟨h.obj.lt, by obtain ⟨cur, hc⟩ := h.row.obj; exact hc.lt⟩
theorem Rep.lt (h : Rep w g M F K) : ∀ x ∈ F, x < w.heap.size := by
  obtain ⟨l, c, ps, rs, rfl, _, h1, h2, h3, h4, h5⟩ := h
  intro x hx
  rcases List.mem_cons.1 hx with rfl | hx
  · exact h1.lt
  rcases List.mem_cons.1 hx with rfl | hx
  · obtain ⟨cur, hc⟩ := h2.obj; exact hc.lt
  rcases List.mem_append.1 hx with hx | hx
  · obtain ⟨i, hi, rfl⟩ := List.getElem_of_mem hx
    obtain ⟨n, cc, hb, _⟩ := h5 i M[i] ps[i] rs[i] (List.getElem?_eq_getElem (by omega)) (List.getElem?_eq_getElem hi) (List.getElem?_eq_getElem (by omega))
    exact hb.lt.1
  · obtain ⟨i, hi, rfl⟩ := List.getElem_of_mem hx
    obtain ⟨n, cc, hb, _⟩ := h5 i M[i] ps[i] rs[i] (List.getElem?_eq_getElem (by omega)) (List.getElem?_eq_getElem (by omega)) (List.getElem?_eq_getElem hi)
    exact hb.lt.2
theorem Rep.eqb (h : Rep w g M F K) (he : ∀ x ∈ F, w'.heap[x]? = w.heap[x]?) : Rep w' g M F K := by
  obtain ⟨l, c, ps, rs, hF, h0, h1, h2, h3, h4, h5⟩ := h
  have hm : ∀ x, x ∈ ps ∨ x ∈ rs → x ∈ F := by intro x hx; rw [hF]; simp only [List.mem_cons, List.mem_append]; exact .inr (.inr hx)
  refine ⟨l, c, ps, rs, hF, h0, h1.eq (he g (by rw [hF]; simp)), h2.eqb (he l (by rw [hF]; simp)), h3, h4, fun i b p r hb hp hr => ?_⟩
  obtain ⟨n, cc, hk, hn⟩ := h5 i b p r hb hp hr
  exact ⟨n, cc, hk.eqb (he p (hm p (.inl (List.mem_of_getElem? hp)))) (he r (hm r (.inr (List.mem_of_getElem? hr)))), hn⟩
theorem Rep.chg (h : Rep w g M F K) (c : Chg w w' G) (hd : ∀ x ∈ F, x ∉ G) : Rep w' g M F K :=
  h.eqb fun x hx => c.block x (h.lt x hx) (hd x hx)
theorem Rep.nw (h : Rep w g M F K) (c : Nw w w') : Rep w' g M F K := h.eqb fun x hx => c.block x (h.lt x hx) (by simp)
theorem Rep.more {K' : Nat} (h : Rep w g M F K) (hK : K ≤ K') : Rep w g M F K' := by
  obtain ⟨l, c, ps, rs, hF, h0, h1, h2, h3, h4, h5⟩ := h
  refine ⟨l, c, ps, rs, hF, h0, h1, h2, h3, h4, fun i b p r hb hp hr => ?_⟩
  obtain ⟨n, cc, hk, hn⟩ := h5 i b p r hb hp hr
  exact ⟨n, cc, hk, by omega⟩
/-- the model's own cell, and its row of pointers -/
theorem Rep.head (h : Rep w g M F K) : ∃ l c, Obj1 w g 52 #[.slice (some ⟨l, 0, none⟩) M.length c] ∧ g ∈ F ∧
    ∀ i, i < M.length → ∃ p r b n cc, M[i]? = some b ∧ w.cell? ⟨l, i, none⟩ = some (.pointer (some ⟨p, 0, none⟩)) ∧ BlkAt w p r b n cc ∧ n ≤ K ∧ p ∈ F ∧ r ∈ F ∧ p ≠ r ∧ g ≠ p ∧ g ≠ r ∧
      ∀ (w' : World) (r' : Nat) (b' : List UInt8 × Bool) (n' c' K' : Nat), Chg w w' [p, r] → BlkAt w' p r' b' n' c' → n' ≤ K' → K ≤ K' → (r' = r ∨ w.heap.size ≤ r') →
        ∃ F', Rep w' g (M.set i b') F' K' ∧ (∀ x ∈ F', x ∈ F ∨ w.heap.size ≤ x) := by
  have hlt := h.lt
  obtain ⟨l, c, ps, rs, hF, h0, h1, h2, h3, h4, h5⟩ := h
  refine ⟨l, c, h1, by rw [hF]; simp, fun i hi => ?_⟩
  have hp : ps[i]? = some ps[i] := List.getElem?_eq_getElem (by omega)
  have hr : rs[i]? = some rs[i] := List.getElem?_eq_getElem (by omega)
  obtain ⟨n, cc, hk, hn⟩ := h5 i M[i] ps[i] rs[i] (List.getElem?_eq_getElem hi) hp hr
  obtain ⟨u, hu, hcell, _⟩ := h2.cellAt hi
  rw [List.getElem?_map, hp] at hu
  simp only [Option.map_some, Option.some.injEq] at hu
  subst hu
  have hnd := h0
  rw [hF] at hnd
  simp only [List.nodup_cons, List.mem_cons, List.mem_append, not_or, List.nodup_append] at hnd
  obtain ⟨⟨gl, gp, gr⟩, ⟨lp, lr⟩, ndp, ndr, dpr⟩ := hnd
  have hmp : ps[i] ∈ ps := List.getElem_mem (by omega)
  have hmr : rs[i] ∈ rs := List.getElem_mem (by omega)
  refine ⟨ps[i], rs[i], M[i], n, cc, List.getElem?_eq_getElem hi, hcell, hk, hn, by rw [hF]; simp [hmp], by rw [hF]; simp [hmr], dpr _ hmp _ hmr, fun e => gp (e ▸ hmp), fun e => gr (e ▸ hmr), ?_⟩
  intro w' r' b' n' c' K' hc hb' hn' hK hr'
  have same : ∀ x, x < w.heap.size → x ≠ ps[i] → x ≠ rs[i] → w'.heap[x]? = w.heap[x]? := fun x hx h1 h2 => hc.block x hx (by simp [h1, h2])
  have hr'n : ∀ x ∈ F, x ≠ rs[i] → x ≠ r' := by
    rintro x hx hne rfl
    rcases hr' with h | h
    · exact hne h
    · have := hlt x hx; omega
  have inF : ∀ x, x ∈ ps ∨ x ∈ rs → x ∈ F := by intro x hx; rw [hF]; simp only [List.mem_cons, List.mem_append]; exact .inr (.inr hx)
  have gF : g ∈ F := by rw [hF]; simp
  have lF : l ∈ F := by rw [hF]; simp
  have hset : ∀ j, j ≠ i → ∀ (hj : j < rs.length), rs[j] ≠ rs[i] := fun j hj hjl e => hj ((List.getElem_inj ndr).1 e)
  refine ⟨g :: l :: (ps ++ rs.set i r'), ⟨l, c, ps, rs.set i r', rfl, ?_, ?_, ?_, by simpa using h3, by simpa using h4, ?_⟩, ?_⟩
  · have mem' : ∀ x ∈ rs.set i r', x = r' ∨ (x ∈ rs ∧ x ≠ rs[i]) := by
      intro x hx
      obtain ⟨j, hj, rfl⟩ := List.getElem_of_mem hx
      rw [List.length_set] at hj
      rw [List.getElem_set]
      by_cases hij : i = j
      · rw [if_pos hij]; exact .inl rfl
      · rw [if_neg hij]; exact .inr ⟨List.getElem_mem hj, hset j (fun e => hij e.symm) hj⟩
    simp only [List.nodup_cons, List.mem_cons, List.mem_append, not_or, List.nodup_append]
    refine ⟨⟨gl, gp, fun hx => ?_⟩, ⟨lp, fun hx => ?_⟩, ndp, ?_, fun a ha b hb => ?_⟩
    · rcases mem' g hx with e | ⟨e, _⟩
      · exact hr'n g gF (fun e2 => gr (e2 ▸ hmr)) e
      · exact gr e
    · rcases mem' l hx with e | ⟨e, _⟩
      · exact hr'n l lF (fun e2 => lr (e2 ▸ hmr)) e
      · exact lr e
    · unfold List.Nodup
      rw [List.pairwise_iff_getElem]
      intro a b ha hb hab
      rw [List.length_set] at ha hb
      rw [List.getElem_set, List.getElem_set]
      have hne : ∀ j (hj : j < rs.length), j ≠ i → rs[j] ≠ r' := fun j hj hji => hr'n _ (inF _ (.inr (List.getElem_mem hj))) (hset j hji hj)
      by_cases h1 : i = a
      · have h2 : ¬ i = b := by omega
        rw [if_pos h1, if_neg h2]
        exact fun e => hne b hb (fun e2 => h2 e2.symm) e.symm
      · rw [if_neg h1]
        by_cases h2 : i = b
        · rw [if_pos h2]
          exact hne a ha (fun e2 => h1 e2.symm)
        · rw [if_neg h2]
          exact (List.pairwise_iff_getElem.1 ndr) a b ha hb hab
    · rcases mem' b hb with e | ⟨e, _⟩
      · rw [e]; exact hr'n a (inF a (.inl ha)) (dpr a ha _ hmr)
      · exact dpr a ha b e
  · rw [List.length_set]
    exact h1.eq (same g (hlt g gF) (fun e => gp (e ▸ hmp)) (fun e => gr (e ▸ hmr)))
  · rw [List.length_set]
    exact h2.eqb (same l (hlt l lF) (fun e => lp (e ▸ hmp)) (fun e => lr (e ▸ hmr)))
  · intro j b p r hb hp' hr2
    by_cases hij : i = j
    · subst hij
      rw [List.getElem?_set, if_pos rfl, if_pos hi] at hb
      rw [List.getElem?_set, if_pos rfl, if_pos (by omega)] at hr2
      rw [hp] at hp'
      injection hb with hb; injection hp' with hp'; injection hr2 with hr2
      subst hb; subst hp'; subst hr2
      exact ⟨n', c', hb', hn'⟩
    · rw [List.getElem?_set, if_neg hij] at hb hr2
      obtain ⟨n2, c2, hk2, hn2⟩ := h5 j b p r hb hp' hr2
      have hjp := List.getElem?_eq_some_iff.1 hp'
      have hjr := List.getElem?_eq_some_iff.1 hr2
      obtain ⟨hj1, rfl⟩ := hjp
      obtain ⟨hj2, rfl⟩ := hjr
      refine ⟨n2, c2, hk2.eqb (same _ hk2.lt.1 ?_ (dpr _ (List.getElem_mem hj1) _ hmr)) (same _ hk2.lt.2 (fun e => dpr _ hmp _ (List.getElem_mem hj2) e.symm) (hset j (fun e => hij e.symm) hj2)), by omega⟩
      exact fun e => hij ((List.getElem_inj ndp).1 e).symm
  · intro x hx
    simp only [List.mem_cons, List.mem_append] at hx
    rcases hx with rfl | rfl | hx | hx
    · exact .inl gF
    · exact .inl lF
    · exact .inl (inF x (.inl hx))
    · obtain ⟨j, hj, rfl⟩ := List.getElem_of_mem hx
      rw [List.length_set] at hj
      rw [List.getElem_set]
      split
      · rcases hr' with h | h
        · rw [h]; exact .inl (inF _ (.inr hmr))
        · exact .inr h
      · exact .inl (inF _ (.inr (List.getElem_mem hj)))
theorem Rep.obj (h : Rep w g M F K) : ∃ l c, Obj1 w g 52 #[.slice (some ⟨l, 0, none⟩) M.length c] := by obtain ⟨l, c, h1, _⟩ := h.head; exact ⟨l, c, h1⟩
theorem Obj1.inj {t t' : TypeId} {cs cs' : Array Value} {x : Nat} (h : Obj1 w x t cs) (k : Obj1 w x t' cs') : cs = cs' := by
  have := h.symm.trans k
  simp only [Option.some.injEq, Obj.cells.injEq] at this
  exact this.1
/-- one block of the model, and what a change of it makes -/
structure AtB (w : World) (g : Nat) (M : List (List UInt8 × Bool)) (F : List Nat) (K l i p r : Nat) (b : List UInt8 × Bool) (n c : Nat) : Prop where
  elt : M[i]? = some b
  cell : w.cell? ⟨l, i, none⟩ = some (.pointer (some ⟨p, 0, none⟩))
  blk : BlkAt w p r b n c
  small : n ≤ K
  pF : p ∈ F
  rF : r ∈ F
  pr : p ≠ r
  gp : g ≠ p
  gr : g ≠ r
  upd : ∀ (w' : World) (r' : Nat) (b' : List UInt8 × Bool) (n' c' K' : Nat), Chg w w' [p, r] → BlkAt w' p r' b' n' c' → n' ≤ K' → K ≤ K' → (r' = r ∨ w.heap.size ≤ r') →
        ∃ F', Rep w' g (M.set i b') F' K' ∧ (∀ x ∈ F', x ∈ F ∨ w.heap.size ≤ x)
theorem Rep.at (h : Rep w g M F K) {l N c : Nat} (ho : Obj1 w g 52 #[.slice (some ⟨l, 0, none⟩) N c]) {i : Nat} (hi : i < M.length) : ∃ p r b n cc, AtB w g M F K l i p r b n cc := by
  obtain ⟨l', c', h1, _, h3⟩ := h.head
  have e := Obj1.inj ho h1
  simp only [Array.mk.injEq, List.cons.injEq, Value.slice.injEq, Option.some.injEq, Addr.mk.injEq, and_true] at e
  obtain ⟨rfl, rfl, rfl⟩ := e
  obtain ⟨p, r, b, n, cc, a1, a2, a3, a4, a5, a6, a7, a8, a9, a10⟩ := h3 i hi
  exact ⟨p, r, b, n, cc, a1, a2, a3, a4, a5, a6, a7, a8, a9, a10⟩
theorem BlkAt.nw {p r n c : Nat} {b : List UInt8 × Bool} (h : BlkAt w p r b n c) (k : Nw w w') : BlkAt w' p r b n c := h.eqb (k.block _ h.lt.1 (by simp)) (k.block _ h.lt.2 (by simp))
theorem BlkAt.openSet {p r n c : Nat} {b : List UInt8 × Bool} (h : BlkAt w p r b n c) (hne : p ≠ r) (v : Bool) : BlkAt (w.setCell ⟨p, 1, none⟩ (.bool v)) p r (b.1, v) n c :=
  ⟨h.obj.set 1 (.bool v), h.row.eqb (Below.heap_setCell w _ _ r (fun e => hne e.symm)), h.pos⟩
theorem BlkAt.allSet {p r r' n c n' c' : Nat} {b : List UInt8 × Bool} {bs : List UInt8} (h : BlkAt w p r b n c) (hne : p ≠ r') (ho : Own w 0 27 64 (some ⟨r', 0, none⟩) n' c' (bs.map bv)) (hn : 0 < n') :
    BlkAt (w.setCell ⟨p, 0, none⟩ (.slice (some ⟨r', 0, none⟩) n' c')) p r' (bs, b.2) n' c' :=
  ⟨h.obj.set 0 _, ho.eqb (Below.heap_setCell w _ _ r' (fun e => hne e.symm)), hn⟩
/-- f of the first k -/
def mapTo {α : Type} (f : α → α) (M : List α) (k : Nat) : List α := (M.take k).map f ++ M.drop k
theorem mapTo_len {α : Type} (f : α → α) (M : List α) (k : Nat) : (mapTo f M k).length = M.length := by unfold mapTo; simp; omega
theorem mapTo_zero {α : Type} (f : α → α) (M : List α) : mapTo f M 0 = M := by simp [mapTo]
theorem mapTo_all {α : Type} (f : α → α) (M : List α) : mapTo f M M.length = M.map f := by simp [mapTo]
theorem mapTo_step {α : Type} (f : α → α) (M : List α) (k : Nat) {b : α} (hb : (mapTo f M k)[k]? = some b) (hk : k < M.length) : (mapTo f M k).set k (f b) = mapTo f M (k + 1) := by
  have hl : ((M.take k).map f).length = k := by simp; omega
  have hb2 : M[k] = b := by
    unfold mapTo at hb
    rw [List.getElem?_append_right (by omega), hl, Nat.sub_self, List.getElem?_drop, Nat.add_zero, List.getElem?_eq_getElem hk] at hb
    injection hb
  unfold mapTo
  rw [List.set_append_right _ _ (by omega), hl, Nat.sub_self, List.drop_eq_getElem_cons hk, List.set_cons_zero, List.take_succ_eq_append_getElem hk, List.map_append, List.map_cons, List.map_nil, List.append_assoc, hb2]
  rfl
/-- what a call does to a model -/
def Post (v : Value) (g : Nat) (M' : List (List UInt8 × Bool)) (F : List Nat) (K : Nat) (w : World) (e : Ending) (w' : World) : Prop :=
  e = .returned v ∧ ∃ F', Rep w' g M' F' K ∧ Chg w w' F ∧ ∀ x ∈ F', x ∈ F ∨ w.heap.size ≤ x
def Fr (w : World) (g : Nat) (M' : List (List UInt8 × Bool)) (F : List Nat) (K : Nat) (w' : World) : Prop :=
  ∃ F', Rep w' g M' F' K ∧ Chg w w' F ∧ ∀ x ∈ F', x ∈ F ∨ w.heap.size ≤ x
theorem Fr.refl (h : Rep w g M F K) : Fr w g M F K w := ⟨F, h, Chg.refl w F, fun _ h => .inl h⟩
theorem Fr.step {w1 w2 : World} {M2 : List (List UInt8 × Bool)} {F1 : List Nat} {K1 : Nat} (h1 : Chg w w1 F) (hs : ∀ x ∈ F1, x ∈ F ∨ w.heap.size ≤ x) (h2 : Fr w1 g M2 F1 K1 w2) : Fr w g M2 F K1 w2 := by
  obtain ⟨F', hr, hc, hf⟩ := h2
  refine ⟨F', hr, h1.trans hc hs, fun x hx => ?_⟩
  rcases hf x hx with h | h
  · exact hs x h
  · have := h1.size; exact .inr (by omega)
end
end Go.Proofs.Ytblkdmnfmnbbeaa

