/- Plain laws of groups: whom a group has, and how many all groups have. -/
import Derived.Test.YtfpllllglpjipaaH
namespace Go.Proofs.Ytfpllllglpjipaa
open Go.RowKit Go.BW

/-- an element of a group's list -/
theorem in_mem (ps : List Wh) (grp : Int) : ∀ (n i : Nat) (v : Int), (inN ps grp n)[i]? = some v → ∃ k x, v = ((k : Nat) : Int) ∧ k < n ∧ ps[k]? = some x ∧ x.t ≠ 0 ∧ x.g = grp
  | 0, i, v, h => by simp [inN] at h
  | n + 1, i, v, h => by
    unfold inN at h
    cases hx : ps[n]? with
    | none => rw [hx] at h; obtain ⟨k, x, a, b, c⟩ := in_mem ps grp n i v h; exact ⟨k, x, a, by omega, c⟩
    | some x =>
      rw [hx] at h
      simp only at h
      by_cases hc : x.t ≠ 0 ∧ x.g = grp
      · rw [if_pos hc] at h
        rcases Nat.lt_or_ge i (inN ps grp n).length with hi | hi
        · rw [List.getElem?_append_left hi] at h
          obtain ⟨k, x, a, b, c⟩ := in_mem ps grp n i v h; exact ⟨k, x, a, by omega, c⟩
        · rw [List.getElem?_append_right hi] at h
          have : i - (inN ps grp n).length = 0 := by
            have := (List.getElem?_eq_some_iff.1 h).1
            simp at this
            omega
          rw [this] at h
          simp at h
          exact ⟨n, x, h.symm, by omega, hx, hc.1, hc.2⟩
      · rw [if_neg hc] at h
        obtain ⟨k, x, a, b, c⟩ := in_mem ps grp n i v h; exact ⟨k, x, a, by omega, c⟩
theorem in_rise (ps : List Wh) (grp : Int) : ∀ (n i j : Nat) (v u : Int), i < j → (inN ps grp n)[i]? = some v → (inN ps grp n)[j]? = some u → v < u
  | 0, i, j, v, u, _, h, _ => by simp [inN] at h
  | n + 1, i, j, v, u, hij, h, h' => by
    unfold inN at h h'
    cases hx : ps[n]? with
    | none => rw [hx] at h h'; exact in_rise ps grp n i j v u hij h h'
    | some x =>
      rw [hx] at h h'
      simp only at h h'
      by_cases hc : x.t ≠ 0 ∧ x.g = grp
      · rw [if_pos hc] at h h'
        have hjl := (List.getElem?_eq_some_iff.1 h').1
        simp at hjl
        rw [List.getElem?_append_left (by omega)] at h
        rcases Nat.lt_or_ge j (inN ps grp n).length with hj | hj
        · rw [List.getElem?_append_left hj] at h'
          exact in_rise ps grp n i j v u hij h h'
        · rw [List.getElem?_append_right hj, show j - (inN ps grp n).length = 0 by omega] at h'
          simp at h'
          obtain ⟨k, _, rfl, hk, _⟩ := in_mem ps grp n i v h
          omega
      · rw [if_neg hc] at h h'
        exact in_rise ps grp n i j v u hij h h'
theorem in_has (ps : List Wh) (grp : Int) {k : Nat} {x : Wh} (hx : ps[k]? = some x) (h0 : x.t ≠ 0) (hg : x.g = grp) : ∀ n, k < n → (k : Int) ∈ inN ps grp n
  | 0, h => by omega
  | n + 1, h => by
    unfold inN
    rcases Nat.lt_or_ge k n with h1 | h1
    · have := in_has ps grp hx h0 hg n h1
      split
      · split
        · simp [this]
        · exact this
      · exact this
    · have : k = n := by omega
      subst this
      rw [hx]
      simp [h0, hg]
def sumG (f : Nat → Nat) : Nat → Nat
  | 0 => 0
  | n + 1 => sumG f n + f n
theorem sumG_congr {f g : Nat → Nat} (h : ∀ i, f i = g i) : ∀ n, sumG f n = sumG g n
  | 0 => rfl
  | n + 1 => by unfold sumG; rw [sumG_congr h n, h n]
theorem sumG_hit (f : Nat → Nat) (g0 : Nat) : ∀ n, sumG (fun g => f g + if g = g0 then 1 else 0) n = sumG f n + if g0 < n then 1 else 0
  | 0 => by simp [sumG]
  | n + 1 => by
    unfold sumG
    rw [sumG_hit f g0 n]
    by_cases h1 : n = g0
    · subst h1
      rw [if_pos rfl, if_neg (by omega), if_pos (by omega)]
      omega
    · rw [if_neg h1]
      by_cases h2 : g0 < n
      · rw [if_pos h2, if_pos (by omega)]; omega
      · rw [if_neg h2, if_neg (by omega)]; omega
theorem sumG_zero : ∀ n, sumG (fun _ => 0) n = 0
  | 0 => rfl
  | n + 1 => by unfold sumG; rw [sumG_zero n]
/-- how many are nowhere -/
def noneN (ps : List Wh) : Nat → Nat
  | 0 => 0
  | k + 1 => noneN ps k + (match ps[k]? with | some x => if x.t = 0 then 1 else 0 | none => 0)
theorem groups_all {ps : List Wh} (h : ∀ x ∈ ps, mayB x = true) : ∀ n, n ≤ ps.length → sumG (fun (g : Nat) => (inN ps (g : Int) n).length) 256 + noneN ps n = n
  | 0, _ => by
    have : sumG (fun (g : Nat) => (inN ps (g : Int) 0).length) 256 = sumG (fun _ => 0) 256 := sumG_congr (fun i => rfl) 256
    rw [this, sumG_zero]
    rfl
  | n + 1, hn => by
    have ih := groups_all h n (by omega)
    have hx : ps[n]? = some ps[n] := List.getElem?_eq_getElem (by omega)
    generalize ps[n] = x at hx
    unfold noneN
    rw [hx]
    simp only
    by_cases h0 : x.t = 0
    · rw [if_pos h0]
      have : sumG (fun (g : Nat) => (inN ps (g : Int) (n + 1)).length) 256 = sumG (fun (g : Nat) => (inN ps (g : Int) n).length) 256 := sumG_congr (fun i => by rw [inN, hx]; simp [h0]) 256
      rw [this]
      omega
    · rw [if_neg h0]
      have hm := h x (List.mem_of_getElem? hx)
      have hg : 0 ≤ x.g ∧ x.g ≤ 255 := by
        unfold mayB at hm
        rw [if_neg h0] at hm
        split at hm
        · simp at hm; omega
        · split at hm
          · simp at hm; omega
          · cases hm
      have : sumG (fun (g : Nat) => (inN ps (g : Int) (n + 1)).length) 256 = sumG (fun (g : Nat) => (inN ps (g : Int) n).length + if g = x.g.toNat then 1 else 0) 256 := sumG_congr (fun i => by
        rw [inN, hx]
        simp only
        by_cases hi : i = x.g.toNat
        · rw [if_pos ⟨h0, by omega⟩, if_pos hi]; simp
        · rw [if_neg (fun hc => hi (by omega)), if_neg hi]; rfl) 256
      rw [this, sumG_hit, if_pos (by omega)]
      omega
end Go.Proofs.Ytfpllllglpjipaa

