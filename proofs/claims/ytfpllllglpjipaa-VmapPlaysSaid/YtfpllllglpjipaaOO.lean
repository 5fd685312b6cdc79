/- Slices of slices of changes that came in. -/
import Derived.Test.YtfpllllglpjipaaO
namespace Go.Proofs.Ytfpllllglpjipaa
open Go.RowKit Go.BW Go.ChangeShapes Go.WideShapes Go.Deep

/-- a slice of changes, as the words have it -/
structure Sl where
  A : Option Addr
  n : Nat
  c : Nat
  l : List Ch
def slc (s : Sl) : List Value := [.slice s.A s.n s.c]
theorem slc_len (s : Sl) : (slc s).length = 1 := rfl
def okSl (w : World) (s : Sl) : Prop := InC w s.A s.n s.c s.l
abbrev InCC (w : World) (A : Option Addr) (n c : Nat) (l : List Sl) : Prop := InL w slc 1 (okSl w) A n c l
section
variable {H : Type} {enc : TypeId × Value → H} {w : World} {base : Nat} {spare : Nat → Bool} {held : Bool} {x : DataW H × List MemPlace} {cs : List Value} {n : Nat}
theorem slice_val {P : Program} {t e : TypeId} (ht : P.underlying t = some (.slice e)) (h : DataW.trod enc P w base spare held n t cs = some x) : ∃ a len cap, cs = [.slice a len cap] := by
  rcases open_slice ht h with ⟨hcs, _⟩ | ⟨ad, len', cap', m, n, D, Pl, hcs, _⟩
  · exact ⟨_, _, _, hcs⟩
  · exact ⟨_, _, _, hcs⟩
theorem inCC_open {fuel : Nat} {a : Option Addr} {len cap : Nat} (h : DataW.trod enc Try.prog w base spare held fuel 43 [.slice a len cap] = some x) : ∃ os, InCC w a len cap os :=
  inL_open Try.underlying43 (by kernel_rfl) (by omega) (fun _ _ _ h => by
    obtain ⟨a, n, c, rfl⟩ := slice_val Try.underlying22 h
    obtain ⟨os, ho⟩ := inC_open h
    exact ⟨⟨a, n, c, os⟩, ho, rfl⟩) h
end
theorem sl1 {w : World} {B n k : Nat} {A : Option Addr} {ps : List Sl} (h : Rd w B 1 A n (fl slc ps)) (hB : B ≤ w.heap.size) (hk : k < n) : ∃ b off x, A = some ⟨b, off, none⟩ ∧ ps[k]? = some x ∧ ∀ w', Nw w w' →
    w'.cell? ⟨b, off + k, none⟩ = some (.slice x.A x.n x.c) := by
  obtain ⟨_, b, off, x, e, _, hx, _⟩ := h.atL slc_len (by omega) hk
  refine ⟨b, off, x, e, hx, fun w' k' => ?_⟩
  obtain ⟨_, b2, off2, x2, e2, _, hx2, hc⟩ := (h.nw k' hB).atL slc_len (by omega) hk
  rw [e] at e2; injection e2 with e2; injection e2 with e3 e4; subst e3; subst e4
  rw [hx] at hx2; injection hx2 with hx2; subst hx2
  have := hc 0 _ rfl
  rwa [Nat.mul_one, Nat.add_zero] at this
/-- the first of them -/
theorem InC.take {w : World} {A : Option Addr} {n c : Nat} {l : List Ch} (h : InC w A n c l) (k : Nat) (hk : k ≤ n) : Rd w w.heap.size 4 A k (fl cc (l.take k)) ∧ k ≤ c ∧ ∀ x ∈ l.take k, okC x := by
  obtain ⟨hr, hc, _, _, ho⟩ := h
  have hr' : Rd w w.heap.size 4 A n (fl cc l) := hr
  exact ⟨hr'.takeL cc_len hk, by omega, fun x hx => ho x (List.mem_of_mem_take hx)⟩
theorem i33 : (Try.prog.info? 33).map (·.size) = some 4 := by kernel_rfl
/-- what is not done changes nothing -/
theorem setF_no {ps : List Wh} {l : List Ch} (h : (setF ps l).1 ≠ 0) : (setF ps l).2 = ps := by
  unfold setF at h ⊢
  split
  · rfl
  · split
    · rfl
    · split
      · rfl
      · rename_i h1 h2 h3
        rw [if_neg h1, if_neg h2, if_neg h3] at h
        exact absurd rfl h
end Go.Proofs.Ytfpllllglpjipaa

