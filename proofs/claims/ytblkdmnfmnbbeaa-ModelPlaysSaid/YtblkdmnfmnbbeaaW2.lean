/- The program's model and the reference's at hand in one walk. -/
import Derived.Test.YtblkdmnfmnbbeaaZ
namespace Go.Proofs.Ytblkdmnfmnbbeaa
open Go.RowKit Go.BW

structure Tr (w0 w : World) (ga : Nat) (M : MB) (Fa : List Nat) (K gb : Nat) (Fb : List Nat) (M' : MB) (V : List Nat) : Prop where
  a : Rep w ga M Fa K
  b : RRep w gb M' Fb
  dis : ∀ x ∈ Fa, x ∉ Fb
  na : ∀ x ∈ Fa, w0.heap.size ≤ x
  nb : ∀ x ∈ Fb, w0.heap.size ≤ x
  nw : Nw w0 w
  var : ∀ x ∈ V, x ∉ Fa ∧ x ∉ Fb ∧ x < w.heap.size
section
variable {w0 w w' : World} {ga gb K K' : Nat} {M M' M2 : MB} {Fa Fb V : List Nat} {v : Value} {e : Ending}
theorem nw_chg {F : List Nat} (h : Nw w0 w) (k : Chg w w' F) (hF : ∀ x ∈ F, w0.heap.size ≤ x) : Nw w0 w' :=
  ⟨k.os.trans h.os, k.tape.trans h.tape, k.output.trans h.output, Nat.le_trans h.size k.size, fun i hi _ => (k.block i (Nat.lt_of_lt_of_le hi h.size) (fun hm => by have := hF i hm; omega)).trans (h.block i hi (by simp))⟩
theorem Tr.stepA (h : Tr w0 w ga M Fa K gb Fb M' V) (k : Post v ga M2 Fa K' w e w') : e = .returned v ∧ ∃ F', Tr w0 w' ga M2 F' K' gb Fb M' V ∧ ∀ x ∈ V, w'.heap[x]? = w.heap[x]? := by
  obtain ⟨he, F', h1, h2, h3⟩ := k
  refine ⟨he, F', ⟨h1, h.b.chg h2 (fun x hx hm => h.dis x hm hx), fun x hx hm => ?_, fun x hx => ?_, h.nb, nw_chg h.nw h2 h.na, fun x hx => ⟨fun hm => ?_, (h.var x hx).2.1, Nat.lt_of_lt_of_le (h.var x hx).2.2 h2.size⟩⟩, fun x hx => h2.block x (h.var x hx).2.2 (h.var x hx).1⟩
  · rcases h3 x hx with h4 | h4
    · exact h.dis x h4 hm
    · have := h.b.lt x hm; omega
  · rcases h3 x hx with h4 | h4
    · exact h.na x h4
    · exact Nat.le_trans h.nw.size h4
  · rcases h3 x hm with h4 | h4
    · exact (h.var x hx).1 h4
    · have := (h.var x hx).2.2; omega
theorem Tr.stepB (h : Tr w0 w ga M Fa K gb Fb M' V) (k : RPost v gb M2 Fb w e w') : e = .returned v ∧ ∃ F', Tr w0 w' ga M Fa K gb F' M2 V ∧ ∀ x ∈ V, w'.heap[x]? = w.heap[x]? := by
  obtain ⟨he, F', h1, h2, h3⟩ := k
  refine ⟨he, F', ⟨h.a.chg h2 (fun x hx => h.dis x hx), h1, fun x hx hm => ?_, h.na, fun x hx => ?_, nw_chg h.nw h2 h.nb, fun x hx => ⟨(h.var x hx).1, fun hm => ?_, Nat.lt_of_lt_of_le (h.var x hx).2.2 h2.size⟩⟩, fun x hx => h2.block x (h.var x hx).2.2 (h.var x hx).2.1⟩
  · rcases h3 x hm with h4 | h4
    · exact h.dis x hx h4
    · have := h.a.lt x hx; omega
  · rcases h3 x hx with h4 | h4
    · exact h.nb x h4
    · exact Nat.le_trans h.nw.size h4
  · rcases h3 x hm with h4 | h4
    · exact (h.var x hx).2.1 h4
    · have := (h.var x hx).2.2; omega
theorem Tr.more (h : Tr w0 w ga M Fa K gb Fb M' V) (k : Nw w w') : Tr w0 w' ga M Fa K gb Fb M' V :=
  ⟨h.a.nw k, h.b.nw k, h.dis, h.na, h.nb, gb_trans h.nw k, fun x hx => ⟨(h.var x hx).1, (h.var x hx).2.1, Nat.lt_of_lt_of_le (h.var x hx).2.2 k.size⟩⟩
theorem Tr.moreK (h : Tr w0 w ga M Fa K gb Fb M' V) (k : K ≤ K') : Tr w0 w ga M Fa K' gb Fb M' V := ⟨h.a.more k, h.b, h.dis, h.na, h.nb, h.nw, h.var⟩
theorem Tr.addVar (h : Tr w0 w ga M Fa K gb Fb M' V) (k : Nw w w') {x : Nat} (h1 : w.heap.size ≤ x) (h2 : x < w'.heap.size) : Tr w0 w' ga M Fa K gb Fb M' (x :: V) := by
  have m := h.more k
  refine ⟨m.a, m.b, m.dis, m.na, m.nb, m.nw, fun y hy => ?_⟩
  rcases List.mem_cons.1 hy with rfl | hy
  · exact ⟨fun hm => by have := h.a.lt _ hm; omega, fun hm => by have := h.b.lt _ hm; omega, h2⟩
  · exact m.var y hy
theorem Tr.noVar (h : Tr w0 w ga M Fa K gb Fb M' V) : Tr w0 w ga M Fa K gb Fb M' [] := ⟨h.a, h.b, h.dis, h.na, h.nb, h.nw, fun x hx => by cases hx⟩
theorem Tr.of_new {N N' : Nat} (h0 : Nw w0 w) (s : St w0 w ga (List.replicate N (z64b, false)) Fa 1 []) (h : RNewPost N' w e w') : ∃ gb Fb, e = .returned (pv gb) ∧ Tr w0 w' ga (List.replicate N (z64b, false)) Fa 1 gb Fb (List.replicate N' (z64b, false)) [] := by
  obtain ⟨gb, Fb, he, h1, h2, h3⟩ := h
  refine ⟨gb, Fb, he, s.rep.nw h3, h1, fun x hx hm => ?_, s.new, fun x hx => Nat.le_trans h0.size (h2 x hx), gb_trans h0 h3, fun x hx => by cases hx⟩
  have := s.rep.lt x hx
  have := h2 x hm
  omega
end
end Go.Proofs.Ytblkdmnfmnbbeaa

