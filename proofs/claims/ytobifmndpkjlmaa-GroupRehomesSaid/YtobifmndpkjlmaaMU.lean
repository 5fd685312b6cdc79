/- Move has one answer. -/
import Derived.Test.YtobifmndpkjlmaaAL
import Derived.Test.YtobifmndpkjlmaaRM
namespace Go.Proofs.Ytobifmndpkjlmaa
open Go.RowKit Go.BW

theorem first_uniq {gs : List Gp} {p : Gp → Bool} {i j : Nat} {x y : Gp} (hx : gs[i]? = some x) (hp : p x = true) (hf : (gs.take i).any p = false) (hy : gs[j]? = some y) (hq : p y = true) (hg : (gs.take j).any p = false) : i = j := by
  rcases Nat.lt_trichotomy i j with h | h | h
  · exfalso
    have : x ∈ gs.take j := by
      obtain ⟨h1, h2⟩ := List.getElem?_eq_some_iff.1 hx
      exact List.mem_take_iff_getElem.2 ⟨i, by omega, h2⟩
    have := List.any_eq_false.1 hg x this
    rw [hp] at this; exact this rfl
  · exact h
  · exfalso
    have : y ∈ gs.take i := by
      obtain ⟨h1, h2⟩ := List.getElem?_eq_some_iff.1 hy
      exact List.mem_take_iff_getElem.2 ⟨j, by omega, h2⟩
    have := List.any_eq_false.1 hf y this
    rw [hq] at this; exact this rfl
theorem any_at {gs : List Gp} {p : Gp → Bool} {i : Nat} {x : Gp} (hx : gs[i]? = some x) (hp : p x = true) : gs.any p = true := List.any_eq_true.2 ⟨x, List.mem_of_getElem? hx, hp⟩
theorem MoveIs.uniq {gs : List Gp} {rs : List Int} {lost : Int} {r s : Option (Nat × Nat)} (h : MoveIs gs rs lost r) (k : MoveIs gs rs lost s) : r = s := by
  cases h with
  | none h =>
    cases k with
    | none _ => rfl
    | stuck i x l hx hh hf hl hn => rfl
    | goes i x l k d hx hh hf hl hk hd hn => rw [any_at (p := fun g => hasD g lost) hx hh] at h; cases h
  | stuck i x l hx hh hf hl hn =>
    cases k with
    | none _ => rfl
    | stuck => rfl
    | goes j y l' k d hy hh' hf' hl' hk hd hn' =>
      have hij := first_uniq (p := fun g => hasD g lost) hx hh hf hy hh' hf'
      subst hij
      rw [hx] at hy; injection hy with hy; subst hy
      have := hl.uniq hl'
      subst this
      rw [hn d (List.mem_of_getElem? hk)] at hd; cases hd
  | goes i x l k0 d hx hh hf hl hk hd hn =>
    cases k with
    | none h => rw [any_at (p := fun g => hasD g lost) hx hh] at h; cases h
    | stuck j y l' hy hh' hf' hl' hn' =>
      have hij := first_uniq (p := fun g => hasD g lost) hx hh hf hy hh' hf'
      subst hij
      rw [hx] at hy; injection hy with hy; subst hy
      have := hl.uniq hl'
      subst this
      rw [hn' d (List.mem_of_getElem? hk)] at hd; cases hd
    | goes j y l' k' d' hy hh' hf' hl' hk' hd' hn' =>
      have hij := first_uniq (p := fun g => hasD g lost) hx hh hf hy hh' hf'
      subst hij
      rw [hx] at hy; injection hy with hy; subst hy
      have := hl.uniq hl'
      subst this
      have hkk : k0 = k' := by
        rcases Nat.lt_trichotomy k0 k' with h | h | h
        · exfalso
          obtain ⟨h1, h2⟩ := List.getElem?_eq_some_iff.1 hk
          have := hn' d (List.mem_take_iff_getElem.2 ⟨k0, by omega, h2⟩)
          rw [this] at hd; cases hd
        · exact h
        · exfalso
          obtain ⟨h1, h2⟩ := List.getElem?_eq_some_iff.1 hk'
          have := hn d' (List.mem_take_iff_getElem.2 ⟨k', by omega, h2⟩)
          rw [this] at hd'; cases hd'
      subst hkk
      rw [hk] at hk'; injection hk' with hk'; subst hk'
      rfl
/-- groups of the same extents -/
theorem okM_es {gs gs' : List Gp} (h : gs.map (·.es) = gs'.map (·.es)) (rs : List Int) (lost : Int) (i d : Nat) : okM gs rs lost i d = okM gs' rs lost i d := by
  unfold okM
  refine hallB_es ?_ _ _
  rw [List.map_drop, List.map_drop, h]
theorem at_es {gs gs' : List Gp} (h : gs.map (·.es) = gs'.map (·.es)) {i : Nat} {x : Gp} (hx : gs[i]? = some x) : ∃ y, gs'[i]? = some y ∧ y.es = x.es := by
  have h1 := congrArg (fun l => l[i]?) h
  simp only [List.getElem?_map, hx, Option.map_some] at h1
  rcases hg : gs'[i]? with _ | y
  · rw [hg] at h1; cases h1
  · rw [hg] at h1; exact ⟨y, rfl, by simpa using h1.symm⟩
theorem any_es {gs gs' : List Gp} (h : gs.map (·.es) = gs'.map (·.es)) (lost : Int) (i : Nat) : (gs.take i).any (fun g => hasD g lost) = (gs'.take i).any (fun g => hasD g lost) := by
  have e : ∀ l : List Gp, l.any (fun g => hasD g lost) = (l.map (·.es)).any (fun es => es.any fun e => e.dk == lost) := fun l => by rw [List.any_map]; rfl
  rw [e, e, List.map_take, List.map_take, h]
theorem anyA_es {gs gs' : List Gp} (h : gs.map (·.es) = gs'.map (·.es)) (lost : Int) : gs.any (fun g => hasD g lost) = gs'.any (fun g => hasD g lost) := by
  have e : ∀ l : List Gp, l.any (fun g => hasD g lost) = (l.map (·.es)).any (fun es => es.any fun e => e.dk == lost) := fun l => by rw [List.any_map]; rfl
  rw [e, e, h]
theorem hasD_es {x y : Gp} (h : x.es = y.es) (d : Int) : hasD x d = hasD y d := by unfold hasD; rw [h]
theorem MoveIs.es {gs gs' : List Gp} (h : gs.map (·.es) = gs'.map (·.es)) {rs : List Int} {lost : Int} {r : Option (Nat × Nat)} (k : MoveIs gs rs lost r) : MoveIs gs' rs lost r := by
  cases k with
  | none k => exact .none (by rw [← anyA_es h]; exact k)
  | stuck i x l hx hh hf hl hn =>
    obtain ⟨y, hy, e⟩ := at_es h hx
    refine .stuck i y l hy (by rw [hasD_es e]; exact hh) (by rw [← any_es h]; exact hf) ⟨hl.ord, fun d => by rw [hl.mem d, hasD_es e]⟩ fun d hd => by rw [← okM_es h]; exact hn d hd
  | goes i x l k0 d hx hh hf hl hk hd hn =>
    obtain ⟨y, hy, e⟩ := at_es h hx
    refine .goes i y l k0 d hy (by rw [hasD_es e]; exact hh) (by rw [← any_es h]; exact hf) ⟨hl.ord, fun d => by rw [hl.mem d, hasD_es e]⟩ hk (by rw [← okM_es h]; exact hd) fun c hc => by rw [← okM_es h]; exact hn c hc
end Go.Proofs.Ytobifmndpkjlmaa

