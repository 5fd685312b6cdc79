/- Labels that came in. -/
import Derived.Test.YtkkkhkkjdjnfhaaLA
import Derived.Test.YtkkkhkkjdjnfhaaOpen
namespace Go.Proofs.Ytkkkhkkjdjnfhaa
open Go.RowKit Go.BW Go.ChangeShapes Go.WideShapes Go.Deep
section
variable {H : Type} {enc : TypeId × Value → H} {w : World} {base : Nat} {spare : Nat → Bool} {held : Bool} {x : DataW H × List MemPlace} {cs : List Value} {n : Nat}
theorem mem_open (h : DataW.trod enc Try.prog w base spare held n 28 cs = some x) : ∃ o : Mem, True ∧ cs = mc o := by
  have hl : cs.length = 3 := (struct_len Try.underlying28 h).trans (by kernel_rfl)
  obtain ⟨_, _, h0⟩ := field_open Try.underlying28 h 0 _ rfl
  obtain ⟨_, _, h1⟩ := field_open Try.underlying28 h 1 _ rfl
  obtain ⟨_, _, h2⟩ := field_open Try.underlying28 h 2 _ rfl
  obtain ⟨a, e0, b0⟩ := int_open Try.underlying3 h0
  obtain ⟨b, e1, b1⟩ := int_open Try.underlying3 h1
  obtain ⟨c, e2, b2⟩ := int_open Try.underlying3 h2
  exact ⟨⟨a, b, c⟩, trivial, cut3 hl e0 e1 e2⟩
theorem mems_open (h : DataW.trod enc Try.prog w base spare held n 22 cs = some x) : ∃ A n c, cs = [.slice A n c] ∧ ∃ ms, InL w mc 3 (fun _ : Mem => True) A n c ms := by
  rcases open_slice Try.underlying22 h with ⟨hcs, _⟩ | ⟨ad, len', cap', m, n, D, Pl, hcs, _⟩
  · subst hcs
    exact ⟨_, _, _, rfl, inL_open Try.underlying22 (by kernel_rfl) (by omega) (fun _ _ _ h => mem_open h) h⟩
  · subst hcs
    exact ⟨_, _, _, rfl, inL_open Try.underlying22 (by kernel_rfl) (by omega) (fun _ _ _ h => mem_open h) h⟩
theorem cut5 {l : List Value} {a b c d e : Value} (hl : l.length = 5) (h0 : (l.drop 0).take 1 = [a]) (h1 : (l.drop 1).take 1 = [b]) (h2 : (l.drop 2).take 1 = [c]) (h3 : (l.drop 3).take 1 = [d]) (h4 : (l.drop 4).take 1 = [e]) : l = [a, b, c, d, e] := by
  match l, hl with
  | [x, y, z, u, v], _ => simp at h0 h1 h2 h3 h4; simp [h0, h1, h2, h3, h4]
def LIn (w : World) (x : Lb) : Prop := LOk w w.heap.size x
theorem label_open (h : DataW.trod enc Try.prog w base spare held n 24 cs = some x) : ∃ o : Lb, LIn w o ∧ cs = lc o := by
  have hl : cs.length = 5 := (struct_len Try.underlying24 h).trans (by kernel_rfl)
  obtain ⟨_, _, h0⟩ := field_open Try.underlying24 h 0 _ rfl
  obtain ⟨_, _, h1⟩ := field_open Try.underlying24 h 1 _ rfl
  obtain ⟨_, _, h2⟩ := field_open Try.underlying24 h 2 _ rfl
  obtain ⟨_, _, h3⟩ := field_open Try.underlying24 h 3 _ rfl
  obtain ⟨_, _, h4⟩ := field_open Try.underlying24 h 4 _ rfl
  obtain ⟨a, e0, b0⟩ := int_open Try.underlying3 h0
  obtain ⟨b, e1, b1⟩ := int_open Try.underlying3 h1
  obtain ⟨c, e2, b2⟩ := int_open Try.underlying3 h2
  obtain ⟨d, e3, b3⟩ := int_open Try.underlying3 h3
  obtain ⟨A, n, k, e4, ms, hr, hnc, hcm, _, _⟩ := mems_open h4
  exact ⟨⟨a, b, c, d, A, n, k, ms⟩, ⟨hr, hnc, hcm⟩, cut5 hl e0 e1 e2 e3 e4⟩
theorem lv_of (x : Lb) (cs : Array Value) (h : cs.toList = lc x) : Value.agg cs = lv x := by
  obtain ⟨l⟩ := cs
  simp at h
  subst h
  rfl
theorem labels_open {fuel : Nat} {a : Option Addr} {len cap : Nat} (h : DataW.trod enc Try.prog w base spare held fuel 33 [.slice a len cap] = some x) : ∃ os, InL w lc 5 (LIn w) a len cap os :=
  inL_open Try.underlying33 (by kernel_rfl) (by omega) (fun _ _ _ h => label_open h) h
end
end Go.Proofs.Ytkkkhkkjdjnfhaa

