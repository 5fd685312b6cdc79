/- Places and changes that came in. -/
import Derived.Test.YtfpllllglpjipaaF
import Derived.Test.YtfpllllglpjipaaOpen
namespace Go.Proofs.Ytfpllllglpjipaa
open Go.RowKit Go.BW
section
variable {H : Type} {enc : TypeId × Value → H} {w : World} {base : Nat} {spare : Nat → Bool} {held : Bool} {x : DataW H × List MemPlace} {cs : List Value} {n : Nat}
theorem where_open (h : DataW.trod enc Try.prog w base spare held n 31 cs = some x) : ∃ o : Wh, okW o ∧ cs = wc o := by
  have hl : cs.length = 3 := (struct_len Try.underlying31 h).trans (by kernel_rfl)
  obtain ⟨_, _, h0⟩ := field_open Try.underlying31 h 0 _ rfl
  obtain ⟨_, _, h1⟩ := field_open Try.underlying31 h 1 _ rfl
  obtain ⟨_, _, h2⟩ := field_open Try.underlying31 h 2 _ rfl
  obtain ⟨a, e0, b0⟩ := int_open Try.underlying3 h0
  obtain ⟨b, e1, b1⟩ := int_open Try.underlying3 h1
  obtain ⟨c, e2, b2⟩ := int_open Try.underlying3 h2
  exact ⟨⟨a, b, c⟩, ⟨b0, b1, b2⟩, cut3 hl e0 e1 e2⟩
theorem change_open (h : DataW.trod enc Try.prog w base spare held n 33 cs = some x) : ∃ o : Ch, okC o ∧ cs = cc o := by
  have hl : cs.length = 4 := (struct_len Try.underlying33 h).trans (by kernel_rfl)
  obtain ⟨_, _, h0⟩ := field_open Try.underlying33 h 0 _ rfl
  obtain ⟨_, _, h1⟩ := field_open Try.underlying33 h 1 _ rfl
  obtain ⟨a, e0, b0⟩ := int_open Try.underlying3 h0
  obtain ⟨o, ok, e1⟩ := where_open h1
  refine ⟨⟨a, o⟩, ⟨b0, ok⟩, ?_⟩
  have e1' : (cs.drop 1).take 3 = wc o := e1
  have e0' : (cs.drop 0).take 1 = [iv a] := e0
  match cs, hl with
  | [p, q, r, s], _ =>
    simp at e0' e1'
    simp [e0', wc, cc] at e1' ⊢
    exact ⟨rfl, e1'⟩
theorem wv_of (x : Wh) (cs : Array Value) (h : cs.toList = wc x) : Value.agg cs = wv x := by
  obtain ⟨l⟩ := cs
  simp at h
  subst h
  rfl
abbrev InC (w : World) (A : Option Addr) (n c : Nat) (l : List Ch) : Prop := InL w cc 4 okC A n c l
theorem inC_open {fuel : Nat} {a : Option Addr} {len cap : Nat} (h : DataW.trod enc Try.prog w base spare held fuel 22 [.slice a len cap] = some x) : ∃ os, InC w a len cap os :=
  inL_open Try.underlying22 (by kernel_rfl) (by omega) (fun _ _ _ h => change_open h) h
end
end Go.Proofs.Ytfpllllglpjipaa

