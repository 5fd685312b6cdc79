/- Plain laws: what Choose answers to the next configuration's labels, two of which are not there. -/
import Derived.Test.YtkkkhkkjdjnfhaaQ
namespace Go.Proofs.Ytkkkhkkjdjnfhaa
open Go.RowKit Go.BW

/-- one place alone -/
theorem picks_one {ms : List Mem} {k : Nat} {q : Mem} (h : ms[k]? = some q) : picks (fun t => t == k) ms ms.length = [q] := by
  have key : ∀ n, n ≤ ms.length → picks (fun t => t == k) ms n = if k < n then [q] else [] := by
    intro n
    induction n with
    | zero => intro _; rw [picks_zero]; rfl
    | succ n ih =>
      intro hn
      have hx : ms[n]? = some ms[n] := List.getElem?_eq_getElem (by omega)
      rw [picks_step hx, ih (by omega)]
      show (if k < n then [q] else []) ++ (if (n == k) = true then [ms[n]] else []) = if k < n + 1 then [q] else []
      by_cases e : n = k
      · subst e
        rw [hx] at h; injection h with h
        simp [h]
      · have e2 : ¬ (n == k) = true := by simpa using e
        rw [if_neg e2, List.append_nil]
        by_cases l : k < n
        · rw [if_pos l, if_pos (show k < n + 1 by omega)]
        · rw [if_neg l, if_neg (show ¬ k < n + 1 by omega)]
  rw [key _ (Nat.le_refl _), if_pos (List.getElem?_eq_some_iff.1 h).1]
/-- neither of two places -/
def two (i k t : Nat) : Bool := t != i && t != k
theorem picks_ne {ms : List Mem} {P : Nat → Bool} {t : Nat} (ht : t < ms.length) (hP : P t = true) : picks P ms ms.length ≠ [] := by
  intro e
  have : ms[t] ∈ picks P ms ms.length := mem_picks.2 ⟨t, List.getElem?_eq_getElem ht, hP⟩
  rw [e] at this
  simp at this
theorem choose_failed {x : Lb} {ms : List Mem} {i k : Nat} {q p : Mem} (hr : ms.Pairwise (fun p q => p.id < q.id)) (hn : 3 ≤ ms.length) (hl : ∀ m ∈ ms, m.st = 0) (hq : ms[i]? = some q) (hp : ms[k]? = some p) (hx : x.ms = ms.set i (failed q)) (h : rightB x = true) (hik : k ≠ i) :
    let all := (picks (two i k) ms ms.length).map (withM x)
    all ≠ [] ∧ all.filter rightB = all ∧ (∃ z, maxOf all = withM x z) ∧ (∀ z, missL all (withM x z) = [p.id]) ∧ chooseE all = 0 := by
  intro all
  have h0 : picks (two i k) ms ms.length ≠ [] := by
    obtain ⟨t, ht, h1, h2⟩ : ∃ t, t < 3 ∧ t ≠ i ∧ t ≠ k := by
      by_cases a : 0 ≠ i ∧ 0 ≠ k
      · exact ⟨0, by omega, a.1, a.2⟩
      by_cases b : 1 ≠ i ∧ 1 ≠ k
      · exact ⟨1, by omega, b.1, b.2⟩
      exact ⟨2, by omega, by omega, by omega⟩
    exact picks_ne (t := t) (by omega) (by unfold two; simp [h1, h2])
  obtain ⟨h1, ⟨z, _, h2⟩, h3, h4⟩ := choose_plain (sel := picks (two i k) ms ms.length) h (fun u hu => by
    obtain ⟨t, ht, hP⟩ := mem_picks.1 hu
    unfold two at hP
    simp only [Bool.and_eq_true, bne_iff_ne] at hP
    have := set_at hq ht
    rw [if_neg hP.1, ← hx] at this
    exact ⟨u, List.mem_of_getElem? this, rfl⟩) h0
  have hf : x.ms.filter (fun m => m.st == 0 && !(picks (two i k) ms ms.length).any (fun q => q.id == m.id)) = [p] := by
    have hpk : x.ms[k]? = some p := by rw [hx, set_at hq hp, if_neg hik]
    rw [← picks_one hpk]
    refine filter_picks _ _ _ fun t m ht => ?_
    have htl : t < ms.length := by have := (List.getElem?_eq_some_iff.1 ht).1; rw [hx, List.length_set] at this; exact this
    have hm0 : ms[t]? = some ms[t] := List.getElem?_eq_getElem htl
    have hs := set_at hq hm0
    rw [← hx, ht] at hs
    injection hs with hs
    by_cases e : t = i
    · rw [if_pos e] at hs
      rw [hs]
      have : (t == k) = false := by simp; omega
      rw [this]
      rfl
    · rw [if_neg e] at hs
      rw [← hs] at hm0
      rw [hl m (List.mem_of_getElem? hm0)]
      simp only [beq_self_eq_true, Bool.true_and]
      by_cases e2 : t = k
      · have : (t == k) = true := by simpa using e2
        rw [this, Bool.not_eq_eq_eq_not, Bool.not_true, List.any_eq_false]
        intro u hu he
        obtain ⟨t', ht', hP⟩ := mem_picks.1 hu
        have := id_inj hr ht' hm0 (by simpa using he)
        unfold two at hP
        simp only [Bool.and_eq_true, bne_iff_ne] at hP
        omega
      · have : (t == k) = false := by simpa using e2
        rw [this, Bool.not_eq_eq_eq_not, Bool.not_false, List.any_eq_true]
        exact ⟨m, mem_picks.2 ⟨t, hm0, by unfold two; simp [e, e2]⟩, by simp⟩
  have hm : ∀ z, missL all (withM x z) = [p.id] := fun z => by rw [show missL all (withM x z) = _ from h4 z, hf]; rfl
  have hne : all ≠ [] := by intro e; exact h0 (by simpa using List.map_eq_nil_iff.1 e)
  refine ⟨hne, h1, ⟨z, h2⟩, hm, ?_⟩
  unfold chooseE
  simp only
  rw [h1, if_neg hne, h2, h3 z, hm z]
  rfl
end Go.Proofs.Ytkkkhkkjdjnfhaa

