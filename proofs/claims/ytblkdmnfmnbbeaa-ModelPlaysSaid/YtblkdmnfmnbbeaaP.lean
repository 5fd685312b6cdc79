/- The reference's model in memory, and what its is and last return; each lemma under the premises that it states. -/
import Derived.Test.YtblkdmnfmnbbeaaN
import Derived.Test.YtblkdmnfmnbbeaaFlat
import Derived.Test.YtblkdmnfmnbbeaaRes
namespace Go.Proofs.Ytblkdmnfmnbbeaa
open Go.RowKit Go.BW

/-- one block of the reference: what lasts, the row of what is later (at A, n of them), open -/
structure RB where
  la : List UInt8
  A : Option Addr
  n : Nat
  c : Nat
  lt : List UInt8
  op : Bool
  hl : la.length = 64
def rc (x : RB) : List Value := x.la.map bv ++ [.slice x.A x.n x.c, .bool x.op]
theorem rc_len (x : RB) : (rc x).length = 66 := by simp [rc, x.hl]
theorem rc_one (x : RB) : ∀ u ∈ rc x, u.oneCell' = true := by
  intro u hu
  unfold rc at hu
  rcases List.mem_append.1 hu with h | h
  · exact bv_one _ u h
  · simp at h; rcases h with rfl | rfl <;> rfl
def abs (x : RB) : List UInt8 × Bool := (x.la ++ x.lt, x.op)
/-- its row, at l -/
structure RR (w : World) (g : Nat) (xs : List RB) (l c : Nat) : Prop where
  obj : Obj1 w g 41 #[.slice (some ⟨l, 0, none⟩) xs.length c]
  row : Own w 0 61 66 (some ⟨l, 0, none⟩) xs.length c (fl rc xs)
  sub : ∀ x ∈ xs, Own w 0 27 64 x.A x.n x.c (x.lt.map bv) ∧ x.n ≤ maxLen
def blkOf (x : RB) : List Nat := match x.A with | some a => [a.block] | none => []
def RRep (w : World) (g : Nat) (M : MB) (F : List Nat) : Prop := ∃ l c xs, RR w g xs l c ∧ M = xs.map abs ∧ F = g :: l :: xs.flatMap blkOf
section
variable {w w' : World} {g : Nat} {M : MB} {F G : List Nat}
theorem own_blk {w : World} {A : Option Addr} {n c : Nat} {ys : List Value} (h : Own w 0 27 64 A n c ys) (he : ∀ a, A = some a → w'.heap[a.block]? = w.heap[a.block]?) : Own w' 0 27 64 A n c ys := by
  rcases A with _ | a
  · rcases h.2 with h2 | ⟨g, cap, cur, hv, _⟩
    · exact ⟨h.1, .inl h2⟩
    · injection hv with hv; cases hv
  · rcases h.2 with ⟨h2, _⟩ | ⟨g, cap, cur, hv, _⟩
    · cases h2
    · injection hv with hv; injection hv with hv; subst hv
      exact h.eqb (he _ rfl)
theorem own_lt {w : World} {a : Addr} {n c : Nat} {e : TypeId} {size : Nat} {ys : List Value} (h : Own w 0 e size (some a) n c ys) : a.block < w.heap.size := by
  rcases h.2 with ⟨h2, _⟩ | ⟨g, cap, cur, hv, _, hg, _⟩
  · cases h2
  · injection hv with hv; injection hv with hv; subst hv
    exact (Array.getElem?_eq_some_iff.1 hg).1
theorem RRep.lt (h : RRep w g M F) : ∀ x ∈ F, x < w.heap.size := by
  obtain ⟨l, c, xs, h, _, rfl⟩ := h
  intro x hx
  rcases List.mem_cons.1 hx with rfl | hx
  · exact h.obj.lt
  rcases List.mem_cons.1 hx with rfl | hx
  · exact own_lt h.row
  · obtain ⟨y, hy, hx⟩ := List.mem_flatMap.1 hx
    have := (h.sub y hy).1
    unfold blkOf at hx
    split at hx
    · rename_i a ha
      rw [ha] at this
      simp at hx
      subst hx
      exact own_lt this
    · cases hx
theorem RRep.eqb (h : RRep w g M F) (he : ∀ x ∈ F, w'.heap[x]? = w.heap[x]?) : RRep w' g M F := by
  obtain ⟨l, c, xs, h, hM, rfl⟩ := h
  refine ⟨l, c, xs, ⟨h.obj.eq (he g (by simp)), h.row.eqb (he l (by simp)), fun x hx => ⟨own_blk (h.sub x hx).1 fun a ha => he _ ?_, (h.sub x hx).2⟩⟩, hM, rfl⟩
  simp only [List.mem_cons, List.mem_flatMap]
  exact .inr (.inr ⟨x, hx, by unfold blkOf; rw [ha]; simp⟩)
theorem RRep.chg (h : RRep w g M F) (c : Chg w w' G) (hd : ∀ x ∈ F, x ∉ G) : RRep w' g M F := h.eqb fun x hx => c.block x (h.lt x hx) (hd x hx)
theorem RRep.nw (h : RRep w g M F) (c : Nw w w') : RRep w' g M F := h.eqb fun x hx => c.block x (h.lt x hx) (by simp)
end
def inR (n : Int) (N : Nat) : Bool := decide (0 ≤ n) && decide (n < N)
theorem is_any {w : World} {g N c : Nat} {A : Option Addr} (h : Obj1 w g 41 #[.slice A N c]) (n : Int) : Calls Try.prog 29 #[pv g, .int .i64 n] w fun e w' => e = .returned (.bool (inR n N)) ∧ w = w' := by
  have hc := h.cell 0
  rw [show (#[Value.slice A N c])[0]? = some (.slice A N c) from rfl] at hc
  unfold pv
  by_cases h0 : 0 ≤ n
  · by_cases h1 : n < N
    · rw [show inR n N = true from by unfold inR; simp [h0, h1]]
      go_enter Try.func29, Try.ntmps29
      go_wp2
      go_ret
      exact ⟨rfl, rfl⟩
    · rw [show inR n N = false from by unfold inR; simp [h1]]
      go_enter Try.func29, Try.ntmps29
      go_wp2
      go_ret
      exact ⟨rfl, rfl⟩
  · rw [show inR n N = false from by unfold inR; simp [h0]]
    go_enter Try.func29, Try.ntmps29
    go_wp2
    go_ret
    exact ⟨rfl, rfl⟩
def rv (x : RB) : Value := .agg (rc x).toArray
/-- the newest: of what is later, else what lasts -/
def lastR (x : RB) : List UInt8 := lastB (x.la ++ x.lt)
theorem obj_at {w : World} {p : Nat} {x : RB} (h : Obj1 w p 61 (rc x).toArray) : w.cell? ⟨p, 64, none⟩ = some (.slice x.A x.n x.c) ∧ w.cell? ⟨p, 65, none⟩ = some (.bool x.op) ∧ ∀ j u, (x.la.map bv)[j]? = some u → w.cell? ⟨p, 0 + j, none⟩ = some u := by
  have hl : (x.la.map bv).length = 64 := by simp [x.hl]
  refine ⟨?_, ?_, fun j u hu => ?_⟩
  · rw [h.cell, List.getElem?_toArray, rc, List.getElem?_append_right (by omega), hl]; rfl
  · rw [h.cell, List.getElem?_toArray, rc, List.getElem?_append_right (by omega), hl]; rfl
  · have := (List.getElem?_eq_some_iff.1 hu).1
    rw [h.cell, List.getElem?_toArray, rc, Nat.zero_add, List.getElem?_append_left (by omega)]
    exact hu
end Go.Proofs.Ytblkdmnfmnbbeaa

