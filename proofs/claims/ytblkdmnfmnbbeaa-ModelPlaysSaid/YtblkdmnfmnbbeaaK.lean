/- What shown returns. -/
import Derived.Test.YtblkdmnfmnbbeaaJ
namespace Go.Proofs.Ytblkdmnfmnbbeaa
open Go.RowKit Go.BW

def b1 (x : UInt8) : List UInt8 := x :: List.replicate 63 0
theorem Rep.len {w : World} {g Z : Nat} {M : List (List UInt8 × Bool)} {F : List Nat} (h : Rep w g M F Z) : Calls Try.prog 16 #[pv g] w fun e w' => e = .returned (.int .i64 M.length) ∧ w = w' := by
  obtain ⟨l, c, ho⟩ := h.obj
  exact len_any ho
/-- 'T{x}' of bytes: the first is given -/
theorem wpList_build1 {P : Program} {ops : Array Oper} {rest : List Oper} {o : Oper} {a : Act} {Q : Exit → Act → World → Prop} {w : World} (hP : P = Try.prog) (x : UInt8) (v : Operand) (hop : o.op = .build 27 #[(0, v)]) (hw : Region.wanted o (yielded ops a.tmps) = true) (hv : a.eval v = bv x)
    (hK : wpList P ops Q rest (a.put o.dst (sv (b1 x))) w) : wpList P ops Q (o :: rest) a w := by
  subst hP
  refine wpList_ran hw (w' := w) (v := sv (b1 x)) ?_ hK
  obtain ⟨i0, hi0, hz0, _⟩ := T22.info
  rw [z64_cells] at hz0
  have hzv : (zeroValue 27).run Try.prog w = .ok (.agg (z64b.map bv).toArray) w := by simp [zeroValue, typeInfo, hi0, hz0]
  obtain ⟨i5, hi5, hs5⟩ : ∃ i, Try.prog.info? 5 = some i ∧ i.size = 1 := Option.map_eq_some_iff.1 (by kernel_rfl : (Try.prog.info? 5).map (·.size) = some 1)
  unfold execOp
  simp [hop, hv, Instr.build, Sem.run_bind, hzv, run_underlying Try.underlying27]
  have hf : Instr.fill (fun i => some (i, 1)) (Value.agg (z64b.map bv).toArray).cells [(0, bv x)] = some ((b1 x).map bv).toArray := by rfl
  rw [hf]
  simp [sv]
/-- a model at hand in a walk that began at w0: its blocks are new, the variables V are none of them -/
structure St (w0 w : World) (g : Nat) (M : List (List UInt8 × Bool)) (F : List Nat) (Z : Nat) (V : List Nat) : Prop where
  rep : Rep w g M F Z
  new : ∀ x ∈ F, w0.heap.size ≤ x
  nw : Nw w0 w
  var : ∀ x ∈ V, x ∉ F ∧ x < w.heap.size
section
variable {w0 w w' : World} {g Z Z' : Nat} {M M' : List (List UInt8 × Bool)} {F : List Nat} {V : List Nat} {v : Value} {e : Ending}
theorem St.of_new {N : Nat} (h0 : Nw w0 w) (h : NewPost N w e w') : ∃ g F, e = .returned (pv g) ∧ St w0 w' g (List.replicate N (z64b, false)) F 1 [] := by
  obtain ⟨g, F, he, h1, h2, h3⟩ := h
  exact ⟨g, F, he, h1, fun x hx => Nat.le_trans h0.size (h2 x hx), gb_trans h0 h3, fun x hx => by cases hx⟩
theorem St.step (h : St w0 w g M F Z V) (k : Post v g M' F Z' w e w') : e = .returned v ∧ ∃ F', St w0 w' g M' F' Z' V ∧ ∀ x ∈ V, w'.heap[x]? = w.heap[x]? := by
  obtain ⟨he, F', h1, h2, h3⟩ := k
  refine ⟨he, F', ⟨h1, fun x hx => ?_, ?_, fun x hx => ⟨fun hm => ?_, ?_⟩⟩, fun x hx => h2.block x (h.var x hx).2 (h.var x hx).1⟩
  · rcases h3 x hx with h4 | h4
    · exact h.new x h4
    · exact Nat.le_trans h.nw.size h4
  · exact ⟨h2.os.trans h.nw.os, h2.tape.trans h.nw.tape, h2.output.trans h.nw.output, Nat.le_trans h.nw.size h2.size, fun i hi _ =>
      (h2.block i (Nat.lt_of_lt_of_le hi h.nw.size) (fun hm => by have := h.new i hm; omega)).trans (h.nw.block i hi (by simp))⟩
  · rcases h3 x hm with h4 | h4
    · exact (h.var x hx).1 h4
    · have := (h.var x hx).2; omega
  · exact Nat.lt_of_lt_of_le (h.var x hx).2 h2.size
theorem St.more (h : St w0 w g M F Z V) (k : Nw w w') : St w0 w' g M F Z V ∧ ∀ x ∈ V, w'.heap[x]? = w.heap[x]? :=
  ⟨⟨h.rep.nw k, h.new, gb_trans h.nw k, fun x hx => ⟨(h.var x hx).1, Nat.lt_of_lt_of_le (h.var x hx).2 k.size⟩⟩, fun x hx => k.block x (h.var x hx).2 (by simp)⟩
theorem St.addVar (h : St w0 w g M F Z V) {x : Nat} (hx : x < w.heap.size) (hn : x ∉ F) : St w0 w g M F Z (x :: V) :=
  ⟨h.rep, h.new, h.nw, fun y hy => by rcases List.mem_cons.1 hy with rfl | hy; exact ⟨hn, hx⟩; exact h.var y hy⟩
/-- a write to one variable -/
theorem St.write (h : St w0 w g M F Z V) {x : Nat} (hx : x ∈ V) (h0 : w0.heap.size ≤ x) (k : w.grownBy w' (some x)) : St w0 w' g M F Z V :=
  ⟨h.rep.eqb (fun y hy => k.block y (h.rep.lt y hy) (by intro e; injection e with e; subst e; exact (h.var _ hx).1 hy)), h.new, nw_of_gb h.nw k (by intro y e; injection e with e; subst e; exact h0), fun y hy => ⟨(h.var y hy).1, Nat.lt_of_lt_of_le (h.var y hy).2 k.size⟩⟩
end
end Go.Proofs.Ytblkdmnfmnbbeaa

