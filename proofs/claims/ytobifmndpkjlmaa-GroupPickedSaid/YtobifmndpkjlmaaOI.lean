/- Groups that came in. -/
import Derived.Test.YtobifmndpkjlmaaM
import Derived.Test.YtobifmndpkjlmaaOpen
namespace Go.Proofs.Ytobifmndpkjlmaa
open Go.RowKit Go.BW Go.ChangeShapes Go.WideShapes Go.Deep
section
variable {H : Type} {enc : TypeId × Value → H} {w : World} {base : Nat} {spare : Nat → Bool} {held : Bool} {x : DataW H × List MemPlace} {cs : List Value} {n : Nat}
theorem cut2 {l : List Value} {a b : Value} (hl : l.length = 2) (h0 : (l.drop 0).take 1 = [a]) (h1 : (l.drop 1).take 1 = [b]) : l = [a, b] := by
  match l, hl with
  | [x, y], _ => simp at h0 h1; simp [h0, h1]
theorem ext_open (h : DataW.trod enc Try.prog w base spare held n 39 cs = some x) : ∃ o : Et, True ∧ cs = ec o := by
  have hl : cs.length = 2 := (struct_len Try.underlying39 h).trans (by kernel_rfl)
  obtain ⟨_, _, h0⟩ := field_open Try.underlying39 h 0 _ rfl
  obtain ⟨_, _, h1⟩ := field_open Try.underlying39 h 1 _ rfl
  obtain ⟨a, e0, b0⟩ := int_open Try.underlying3 h0
  obtain ⟨b, e1, b1⟩ := int_open Try.underlying3 h1
  exact ⟨⟨a, b⟩, trivial, cut2 hl e0 e1⟩
theorem exts_open (h : DataW.trod enc Try.prog w base spare held n 35 cs = some x) : ∃ A n c, cs = [.slice A n c] ∧ ∃ ms, InL w ec 2 (fun _ : Et => True) A n c ms := by
  rcases open_slice Try.underlying35 h with ⟨hcs, _⟩ | ⟨ad, len', cap', m, n, D, Pl, hcs, _⟩
  · subst hcs
    exact ⟨_, _, _, rfl, inL_open Try.underlying35 (by kernel_rfl) (by omega) (fun _ _ _ h => ext_open h) h⟩
  · subst hcs
    exact ⟨_, _, _, rfl, inL_open Try.underlying35 (by kernel_rfl) (by omega) (fun _ _ _ h => ext_open h) h⟩
def GIn (w : World) (x : Gp) : Prop := GIo w w.heap.size x
theorem group_open (h : DataW.trod enc Try.prog w base spare held n 37 cs = some x) : ∃ o : Gp, GIn w o ∧ cs = gc o := by
  have hl : cs.length = 3 := (struct_len Try.underlying37 h).trans (by kernel_rfl)
  obtain ⟨_, _, h0⟩ := field_open Try.underlying37 h 0 _ rfl
  obtain ⟨_, _, h1⟩ := field_open Try.underlying37 h 1 _ rfl
  obtain ⟨_, _, h2⟩ := field_open Try.underlying37 h 2 _ rfl
  obtain ⟨a, e0, b0⟩ := int_open Try.underlying3 h0
  obtain ⟨b, e1, b1⟩ := int_open Try.underlying3 h1
  obtain ⟨A, n, k, e2, ms, hr, hnc, hcm, _, _⟩ := exts_open h2
  exact ⟨⟨a, b, A, n, k, ms⟩, ⟨hr, hnc, hcm⟩, cut3 hl e0 e1 e2⟩
theorem groups_open {fuel : Nat} {a : Option Addr} {len cap : Nat} (h : DataW.trod enc Try.prog w base spare held fuel 28 [.slice a len cap] = some x) : ∃ os, InL w gc 3 (GIn w) a len cap os :=
  inL_open Try.underlying28 (by kernel_rfl) (by omega) (fun _ _ _ h => group_open h) h
end
theorem InL.gsi {w : World} {a : Option Addr} {len cap : Nat} {gs : List Gp} (h : InL w gc 3 (GIn w) a len cap gs) : GsI w w.heap.size a len gs ∧ len ≤ 9223372036854775807 := by
  obtain ⟨hr, hnc, hcm, _, hall⟩ := h
  exact ⟨⟨hr, hall⟩, by unfold maxLen at hcm; omega⟩
end Go.Proofs.Ytobifmndpkjlmaa

