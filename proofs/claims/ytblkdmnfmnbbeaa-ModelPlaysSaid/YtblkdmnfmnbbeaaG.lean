/- What model.New makes. -/
import Derived.Test.YtblkdmnfmnbbeaaF
namespace Go.Proofs.Ytblkdmnfmnbbeaa
open Go.RowKit Go.BW

def z64b : List UInt8 := List.replicate 64 0
structure NewR (w : World) (g k : Nat) (A : Option Addr) (c : Nat) (ps rs : List Nat) (wr : World) : Prop where
  obj : Obj1 wr g 52 #[.slice A k c]
  row : Own wr 0 53 1 A k c (ps.map pv)
  lp : ps.length = k
  lr : rs.length = k
  nd : (g :: (ps ++ rs)).Nodup
  out : ∀ l, A = some ⟨l, 0, none⟩ → w.heap.size ≤ l ∧ l < wr.heap.size ∧ l ∉ g :: (ps ++ rs)
  blk : ∀ (i p r : Nat), ps[i]? = some p → rs[i]? = some r → ∃ cc, BlkAt wr p r (z64b, false) 1 cc
  new : ∀ x ∈ g :: (ps ++ rs), w.heap.size ≤ x ∧ x < wr.heap.size
  nw : Nw w wr
theorem NewR.step {w wr w3 w4 : World} {g k c p1 r1 l' c' cc : Nat} {A : Option Addr} {ps rs : List Nat} (h : NewR w g k A c ps rs wr) (n3 : Nw wr w3) (hr1 : wr.heap.size ≤ r1) (hp1 : wr.heap.size ≤ p1) (hpr : p1 ≠ r1)
    (hb : BlkAt w3 p1 r1 (z64b, false) 1 cc) (g4 : w3.grownBy w4 (Value.slice A k c).ownBlock) (o4 : Own w4 0 53 1 (some ⟨l', 0, none⟩) (k + 1) c' (ps.map pv ++ [pv p1]))
    (e4 : (Value.slice (some ⟨l', 0, none⟩) (k + 1) c').ownBlock = (Value.slice A k c).ownBlock ∨ (Value.slice (some ⟨l', 0, none⟩) (k + 1) c').ownBlock = some w3.heap.size) :
    NewR w g (k + 1) (some ⟨l', 0, none⟩) c' (ps ++ [p1]) (rs ++ [r1]) (w4.setCell ⟨g, 0, none⟩ (.slice (some ⟨l', 0, none⟩) (k + 1) c')) := by
  have s3 := n3.size
  have s4 := g4.size
  have s0 := h.nw.size
  have hA : ∀ l, (Value.slice A k c).ownBlock = some l → A = some ⟨l, 0, none⟩ := by
    intro l hl
    rcases h.row.2 with ⟨h2, _⟩ | ⟨g', cap, cur, hv, _⟩
    · injection h2 with h2; subst h2; simp [Value.ownBlock] at hl
    · injection hv with hv; subst hv; simp [Value.ownBlock] at hl; subst hl; rfl
  have hl' : (w.heap.size ≤ l' ∧ l' < wr.heap.size ∧ l' ∉ g :: (ps ++ rs)) ∨ l' = w3.heap.size := by
    rcases e4 with e | e
    · exact .inl (h.out l' (hA l' (e ▸ by simp [Value.ownBlock])))
    · exact .inr (by simpa [Value.ownBlock] using e)
  have hll : w.heap.size ≤ l' ∧ l' ∉ g :: (ps ++ rs) ∧ l' ≠ p1 ∧ l' ≠ r1 ∧ l' < w4.heap.size := by
    have hp := hb.lt
    have hlt : l' < w4.heap.size := by obtain ⟨cur, hc⟩ := o4.obj; exact hc.lt
    rcases hl' with ⟨a1, a2, a3⟩ | e
    · exact ⟨a1, a3, by omega, by omega, hlt⟩
    · refine ⟨by omega, fun hm => ?_, by omega, by omega, hlt⟩
      have := (h.new l' hm).2
      omega
  have keep : ∀ x, x < w3.heap.size → (∀ l, A = some ⟨l, 0, none⟩ → x ≠ l) → w4.heap[x]? = w3.heap[x]? := fun x hx hne => g4.block x hx (fun e => hne x (hA x e.symm) rfl)
  have keepO : ∀ x, x ∈ g :: (ps ++ rs) → w4.heap[x]? = wr.heap[x]? := fun x hx => by
    have h1 := (h.new x hx).2
    rw [keep x (by omega) (fun l hl e => (h.out l hl).2.2 (e ▸ hx)), n3.block x h1 (by simp)]
  have glt := (h.new g (List.mem_cons_self ..)).2
  have hw5 : ∀ x, x ≠ g → (w4.setCell ⟨g, 0, none⟩ (.slice (some ⟨l', 0, none⟩) (k + 1) c')).heap[x]? = w4.heap[x]? := fun x hx => Below.heap_setCell w4 _ _ x hx
  have n5 : Nw w (w4.setCell ⟨g, 0, none⟩ (.slice (some ⟨l', 0, none⟩) (k + 1) c')) := by
    have n4 : Nw w w4 := nw_of_gb (gb_trans h.nw n3) g4 (fun l hl => (h.out l (hA l hl)).1)
    exact gb_set n4 (.inr (h.new g (List.mem_cons_self ..)).1) _
  have size5 : (w4.setCell ⟨g, 0, none⟩ (.slice (some ⟨l', 0, none⟩) (k + 1) c')).heap.size = w4.heap.size := by simp [World.setCell]
  have hp := hb.lt
  have nd := h.nd
  simp only [List.nodup_cons, List.mem_append, not_or, List.nodup_append] at nd
  obtain ⟨⟨gp, gr⟩, ndp, ndr, dpr⟩ := nd
  have old : ∀ x, x ∈ g :: (ps ++ rs) → x < wr.heap.size := fun x hx => (h.new x hx).2
  have inp : ∀ x, x ∈ ps → x ∈ g :: (ps ++ rs) := fun x hx => List.mem_cons_of_mem _ (List.mem_append_left _ hx)
  have inr' : ∀ x, x ∈ rs → x ∈ g :: (ps ++ rs) := fun x hx => List.mem_cons_of_mem _ (List.mem_append_right _ hx)
  have gl : g ≠ l' := fun e => hll.2.1 (e ▸ List.mem_cons_self ..)
  refine ⟨?_, ?_, by simp [h.lp], by simp [h.lr], ?_, ?_, ?_, ?_, n5⟩
  · have := (h.obj.eq (keepO g (List.mem_cons_self ..))).set 0 (.slice (some ⟨l', 0, none⟩) (k + 1) c')
    exact this
  · rw [List.map_append]
    exact o4.eqb (hw5 l' gl.symm)
  · simp only [List.nodup_cons, List.mem_append, List.mem_singleton, not_or, List.nodup_append, List.not_mem_nil, not_false_eq_true, List.nodup_nil, true_and, and_true]
    refine ⟨⟨⟨gp, by omega⟩, gr, by omega⟩, ⟨ndp, ?_⟩, ⟨ndr, ?_⟩, ?_⟩
    · rintro a ha b rfl; have := old a (inp a ha); omega
    · rintro a ha b rfl; have := old a (inr' a ha); omega
    · rintro a (ha | rfl) b (hb2 | rfl)
      · exact dpr a ha b hb2
      · have := old a (inp a ha); omega
      · have := old b (inr' b hb2); omega
      · exact hpr
  · intro l e
    injection e with e; injection e with e; subst e
    refine ⟨hll.1, by rw [size5]; exact hll.2.2.2.2, ?_⟩
    have := hll.2.1
    simp only [List.mem_cons, List.mem_append, not_or, List.not_mem_nil, or_false] at this ⊢
    exact ⟨this.1, ⟨this.2.1, hll.2.2.1⟩, this.2.2, hll.2.2.2.1⟩
  · intro i p r hpi hri
    rcases Nat.lt_or_ge i k with hi | hi
    · rw [List.getElem?_append_left (by have := h.lp; omega)] at hpi
      rw [List.getElem?_append_left (by have := h.lr; omega)] at hri
      obtain ⟨c2, hc2⟩ := h.blk i p r hpi hri
      have mp := inp p (List.mem_of_getElem? hpi)
      have mr := inr' r (List.mem_of_getElem? hri)
      refine ⟨c2, hc2.eqb ?_ ?_⟩
      · rw [hw5 p (fun e => gp (e ▸ List.mem_of_getElem? hpi)), keepO p mp]
      · rw [hw5 r (fun e => gr (e ▸ List.mem_of_getElem? hri)), keepO r mr]
    · have hi2 : i = k := by
        have := (List.getElem?_eq_some_iff.1 hpi).1
        simp at this
        have := h.lp
        omega
      subst hi2
      rw [List.getElem?_append_right (by have := h.lp; omega)] at hpi
      rw [List.getElem?_append_right (by have := h.lr; omega)] at hri
      simp [h.lp] at hpi
      simp [h.lr] at hri
      subst hpi; subst hri
      refine ⟨cc, hb.eqb ?_ ?_⟩
      · rw [hw5 p1 (by omega), keep p1 hp.1 (fun l hl e => by have := (h.out l hl).2.1; omega)]
      · rw [hw5 r1 (by omega), keep r1 hp.2 (fun l hl e => by have := (h.out l hl).2.1; omega)]
  · intro x hx
    rw [size5]
    simp only [List.mem_cons, List.mem_append, List.not_mem_nil, or_false] at hx
    have ho : x ∈ g :: (ps ++ rs) → w.heap.size ≤ x ∧ x < w4.heap.size := fun hm => ⟨(h.new x hm).1, by have := (h.new x hm).2; omega⟩
    rcases hx with rfl | (hx | rfl) | hx | rfl
    · exact ho (List.mem_cons_self ..)
    · exact ho (inp x hx)
    · exact ⟨by omega, by have := hp.1; omega⟩
    · exact ho (inr' x hx)
    · exact ⟨by omega, by have := hp.2; omega⟩
end Go.Proofs.Ytblkdmnfmnbbeaa

