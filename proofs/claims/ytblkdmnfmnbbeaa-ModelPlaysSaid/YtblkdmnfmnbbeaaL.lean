/- Words that the walks of chapter 19's laws share; each lemma under the premises that it states. -/
import Derived.Test.YtblkdmnfmnbbeaaK2
import Derived.Test.YtblkdmnfmnbbeaaOpen
namespace Go.Proofs.Ytblkdmnfmnbbeaa
open Go.RowKit Go.BW

theorem St.row {w0 w w' : World} {g Z : Nat} {M : List (List UInt8 × Bool)} {F V : List Nat} (h : St w0 w g M F Z V) {x : Nat} (hx : x ∉ F) (h0 : w0.heap.size ≤ x) (k : w.grownBy w' (some x)) : St w0 w' g M F Z V :=
  ⟨h.rep.eqb (fun y hy => k.block y (h.rep.lt y hy) (by intro e; injection e with e; subst e; exact hx hy)), h.new, nw_of_gb h.nw k (by intro y e; injection e with e; subst e; exact h0), fun y hy => ⟨(h.var y hy).1, Nat.lt_of_lt_of_le (h.var y hy).2 k.size⟩⟩
theorem own_N {w : World} {base size n c : Nat} {e : TypeId} {A : Option Addr} {xs : List Value} (_ : Own w base e size A n c xs) : ∃ N, n = N := ⟨n, rfl⟩
theorem take_sec {L : List UInt8} {i : Nat} : L.take (i * 64) ++ secAt L i = L.take ((i + 1) * 64) := by
  unfold secAt
  rw [Nat.add_mul, Nat.one_mul, List.take_add]
theorem secAt_row {w : World} {base l n c : Nat} {bs : List UInt8} (h : Own w base 27 64 (some ⟨l, 0, none⟩) n c (bs.map bv)) {i : Nat} (hi : i < n) : ∀ j u, ((secAt bs i).map bv)[j]? = some u → w.cell? ⟨l, i * 64 + j, none⟩ = some u := by
  intro j u hu
  have := secAt_cell h.rd hi j u hu
  rwa [Nat.zero_add] at this
theorem load_own {w : World} {x : Nat} {s : List UInt8} (h : Own w 0 27 64 (some ⟨x, 0, none⟩) 1 1 (s.map bv)) : ∀ j u, (s.map bv)[j]? = some u → w.cell? ⟨x, 0 + j, none⟩ = some u := load_of (Own.row1 h)
theorem has_one {s x : List UInt8} (h : s.length = 64) : hasB s x = decide (x = s) := by
  have e : secAt s 0 = s := by unfold secAt; simp only [Nat.zero_mul, List.drop_zero]; exact List.take_of_length_le (by omega)
  unfold hasB
  rw [h]
  simp only [show 64 / 64 = 1 from rfl, List.range_one, List.any_cons, List.any_nil, Bool.or_false, e]
  exact decide_eq_decide.2 ⟨fun h => h.symm, fun h => h.symm⟩
theorem last_app {B s : List UInt8} (h : s.length = 64) : lastB (B ++ s) = s := by
  unfold lastB
  rw [List.length_append, h, Nat.add_sub_cancel, List.drop_left]
theorem last_self {s : List UInt8} (h : s.length = 64) : lastB s = s := by unfold lastB; rw [h]; rfl
theorem flush_closed (B : List UInt8) : flushB (B, false) = (lastB B, false) := rfl
end Go.Proofs.Ytblkdmnfmnbbeaa

