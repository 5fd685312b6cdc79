/- The most room so far, in plain Lean. -/
import Derived.Test.YtobifmndpkjlmaaS2
namespace Go.BW
/-- .. among the first k disks -/
def MostUp (rs no : List Int) (k : Nat) (r : Int) : Prop :=
  (r = -1 ∧ ∀ d, d < k → 0 < rs.getD d 0 → (d : Int) ∈ no) ∨
  ∃ d : Nat, r = d ∧ d < k ∧ 0 < rs.getD d 0 ∧ (d : Int) ∉ no ∧ ∀ e, e < k → 0 < rs.getD e 0 → (e : Int) ∉ no → e ≠ d → bef rs d e
theorem MostUp.zero (rs no : List Int) : MostUp rs no 0 (-1) := .inl ⟨rfl, fun _ h => absurd h (by omega)⟩
theorem MostUp.all {rs no : List Int} {r : Int} (h : MostUp rs no rs.length r) : MostOf rs no r := h
theorem MostUp.take {rs no : List Int} {k : Nat} {r : Int} (h : MostUp rs no k r) (h0 : 0 < rs.getD k 0) (hn : (k : Int) ∉ no) (hr : r < 0 ∨ ∃ d : Nat, r = d ∧ rs.getD d 0 < rs.getD k 0) : MostUp rs no (k + 1) (k : Int) := by
  refine .inr ⟨k, rfl, by omega, h0, hn, fun e he he0 hen hne => ?_⟩
  have hek : e < k := by omega
  rcases h with ⟨rfl, h⟩ | ⟨d, rfl, h1, h2, h3, h4⟩
  · exact absurd (h e hek he0) hen
  · rcases hr with hr | ⟨d', hd, hr⟩
    · omega
    · have : d' = d := by omega
      subst this
      by_cases hed : e = d'
      · subst hed; exact .inl hr
      · exact bef_trans (.inl hr) (h4 e hek he0 hen hed)
theorem MostUp.pass {rs no : List Int} {k : Nat} {r : Int} (h : MostUp rs no k r) (hp : ¬ 0 < rs.getD k 0 ∨ (k : Int) ∈ no ∨ ∃ d : Nat, r = d ∧ rs.getD k 0 ≤ rs.getD d 0) : MostUp rs no (k + 1) r := by
  rcases h with ⟨rfl, h⟩ | ⟨d, rfl, h1, h2, h3, h4⟩
  · refine .inl ⟨rfl, fun d hd h0 => ?_⟩
    by_cases hdk : d = k
    · subst hdk
      rcases hp with hp | hp | ⟨e, he, _⟩
      · exact absurd h0 hp
      · exact hp
      · omega
    · exact h d (by omega) h0
  · refine .inr ⟨d, rfl, by omega, h2, h3, fun e he he0 hen hne => ?_⟩
    by_cases hek : e = k
    · subst hek
      rcases hp with hp | hp | ⟨d', hd, hr⟩
      · exact absurd he0 hp
      · exact absurd hp hen
      · have : d' = d := by omega
        subst this
        unfold bef; omega
    · exact h4 e (by omega) he0 hen hne
theorem MostUp.nat {rs no : List Int} {k : Nat} {r : Int} (h : MostUp rs no k r) : r = -1 ∨ ∃ d : Nat, r = d ∧ d < k := by
  rcases h with ⟨rfl, _⟩ | ⟨d, rfl, h1, _⟩
  · exact .inl rfl
  · exact .inr ⟨d, rfl, h1⟩
end Go.BW

