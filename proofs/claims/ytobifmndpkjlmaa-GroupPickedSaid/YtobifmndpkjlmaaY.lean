/- What must be in any case: the statements' shown, step by step. -/
import Derived.Test.YtobifmndpkjlmaaX
import Derived.Test.YtobifmndpkjlmaaV
import Derived.Test.YtobifmndpkjlmaaT
import Derived.Test.YtobifmndpkjlmaaN
namespace Go.Proofs.Ytobifmndpkjlmaa
open Go.RowKit Go.BW

def twoG (A1 A2 : Option Addr) (n1 c1 n2 c2 : Nat) : List Gp := [⟨0, 0, A1, n1, c1, onE [0, 1]⟩, ⟨0, 0, A2, n2, c2, onE [0, 2]⟩]
section
variable (A1 A2 : Option Addr) (n1 c1 n2 c2 : Nat)
theorem two_safe : hallB (twoG A1 A2 n1 c1 n2 c2) [9, 1, 1] 0 = true := by rfl
theorem two_unsafe : hallB (twoG A1 A2 n1 c1 n2 c2) [9, 2, 0] 0 = false := by rfl
theorem two_ok : okM (twoG A1 A2 n1 c1 n2 c2) [9, 1, 1] 0 0 2 = true := by rfl
end
theorem rank1 : Ranked [1, 3, 3, 0, 2] (fun d => (d : Int) ∉ ([2] : List Int)) [1, 4, 0] := by
  refine ⟨?_, fun d => ?_⟩
  · simp [bef]
  · constructor
    · intro h
      simp at h
      rcases h with rfl | rfl | rfl <;> simp
    · rintro ⟨h1, h2, h3⟩
      simp at h1
      have : d = 0 ∨ d = 1 ∨ d = 2 ∨ d = 3 ∨ d = 4 := by omega
      rcases this with rfl | rfl | rfl | rfl | rfl <;> simp at h2 h3 ⊢
theorem rank2 : Ranked [1, 0] (fun d => (d : Int) ∉ ([] : List Int)) [0] := by
  refine ⟨by simp, fun d => ?_⟩
  constructor
  · intro h; simp at h; subst h; simp
  · rintro ⟨h1, h2, _⟩
    simp at h1
    have : d = 0 ∨ d = 1 := by omega
    rcases this with rfl | rfl <;> simp at h2 ⊢
theorem rank3 (x : Gp) (hx : dks x = [0, 1]) : Ranked [9, 1, 1] (fun d => (!hasD x (d : Int)) = true) [2] := by
  have hh : ∀ d : Nat, (!hasD x (d : Int)) = true ↔ (d : Int) ∉ ([0, 1] : List Int) := fun d => by rw [Bool.not_eq_true', hasD_not, hx]
  refine ⟨by simp, fun d => ?_⟩
  rw [hh]
  constructor
  · intro h; simp at h; subst h; simp
  · rintro ⟨h1, h2, h3⟩
    simp at h1
    have : d = 0 ∨ d = 1 ∨ d = 2 := by omega
    rcases this with rfl | rfl | rfl <;> simp at h2 h3 ⊢
theorem two_move (A1 A2 : Option Addr) (n1 c1 n2 c2 : Nat) {r : Option (Nat × Nat)} (h : MoveIs (twoG A1 A2 n1 c1 n2 c2) [9, 1, 1] 0 r) : r = some (0, 2) := by
  cases h with
  | none h => exact absurd h (by simp [twoG, hasD, onE])
  | stuck i x l hx hh hf hl hn =>
    rcases Nat.eq_zero_or_pos i with hi | hi
    · subst hi
      have e : x = ⟨0, 0, A1, n1, c1, onE [0, 1]⟩ := by simpa [twoG] using hx.symm
      have hl2 := hl.uniq (rank3 x (by rw [e]; rfl))
      subst hl2
      have := hn 2 (by simp)
      rw [two_ok] at this; cases this
    · exfalso
      have : (twoG A1 A2 n1 c1 n2 c2).take i = ⟨0, 0, A1, n1, c1, onE [0, 1]⟩ :: ([⟨0, 0, A2, n2, c2, onE [0, 2]⟩] : List Gp).take (i - 1) := by
        obtain ⟨j, rfl⟩ : ∃ j, i = j + 1 := ⟨i - 1, by omega⟩
        simp [twoG]
      rw [this, List.any_cons] at hf
      simp [hasD, onE] at hf
  | goes i x l k d hx hh hf hl hk hd hn =>
    rcases Nat.eq_zero_or_pos i with hi | hi
    · subst hi
      have e : x = ⟨0, 0, A1, n1, c1, onE [0, 1]⟩ := by simpa [twoG] using hx.symm
      have hl2 := hl.uniq (rank3 x (by rw [e]; rfl))
      subst hl2
      rcases k with _ | k
      · simp at hk; rw [← hk]
      · simp at hk
    · exfalso
      have : (twoG A1 A2 n1 c1 n2 c2).take i = ⟨0, 0, A1, n1, c1, onE [0, 1]⟩ :: ([⟨0, 0, A2, n2, c2, onE [0, 2]⟩] : List Gp).take (i - 1) := by
        obtain ⟨j, rfl⟩ : ∃ j, i = j + 1 := ⟨i - 1, by omega⟩
        simp [twoG]
      rw [this, List.any_cons] at hf
      simp [hasD, onE] at hf
theorem two_spare (A1 A2 : Option Addr) (n1 c1 n2 c2 : Nat) {v : Nat} (h : SpareIs (allE (twoG A1 A2 n1 c1 n2 c2)) 3 v) : v = 2 := by
  refine h.uniq (v' := 2) ⟨fun d h0 h1 => ?_, .inr ⟨0, by decide, by decide, rfl⟩⟩
  have : d = 0 ∨ d = 1 ∨ d = 2 := by omega
  rcases this with rfl | rfl | rfl <;> simp [cntE, allE, twoG, onE]
end Go.Proofs.Ytobifmndpkjlmaa

