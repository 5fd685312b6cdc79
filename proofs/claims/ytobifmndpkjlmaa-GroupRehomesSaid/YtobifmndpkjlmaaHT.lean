/- Either each of the groups can be given a disk, or some set of disks is short: by the giving itself, in plain Lean. -/
import Derived.Test.YtobifmndpkjlmaaS4
namespace Go.BW
section
variable {rs : List Int} {L : Nat → List Int} {N : Nat}
theorem give_pure : ∀ (k : Nat) (G : List (List Nat)) (T : Nat → Bool) (g : Nat), un rs.length T < k → g < N → Gd rs L N G → (∃ G', GTrue G T g G' ∧ Gd rs L N G') ∨ ∃ T', GFalse rs L G T g T'
  | 0, _, _, _, h, _, _ => absurd h (by omega)
  | k + 1, G, T, g, hun, hg, hgd => by
    have outer : ∀ (m d : Nat) (T1 : Nat → Bool), d + m = rs.length → GLoop rs L G T g d T1 → (∃ G', GTrue G T g G' ∧ Gd rs L N G') ∨ ∃ T', GFalse rs L G T g T' := by
      intro m
      induction m with
      | zero =>
        intro d T1 hd hl
        have : d = rs.length := by omega
        subst this
        exact .inr ⟨T1, hl.fin⟩
      | succ m ih =>
        intro d T1 hd hl
        by_cases h0 : 0 < rs.getD d 0
        · by_cases h1 : T1 d = true
          · exact ih (d + 1) T1 (by omega) (hl.skip (.inr (.inl h1)))
          · have h1 : T1 d = false := by simpa using h1
            by_cases h2 : (d : Int) ∈ L g
            · exact ih (d + 1) T1 (by omega) (hl.skip (.inr (.inr h2)))
            · have hdn : d < rs.length := by omega
              by_cases h3 : ((G.getD d []).length : Int) < rs.getD d 0
              · exact .inl ⟨_, hl.push h1 (by rw [hgd.len]; exact hdn), hgd.push hdn hg h2 h3⟩
              · have inner : ∀ (q i : Nat) (T3 : Nat → Bool), i + q = (G.getD d []).length → GIn rs L G T g d i T3 → (∃ G', GTrue G T g G' ∧ Gd rs L N G') ∨ ∃ T4, GIn rs L G T g d (G.getD d []).length T4 := by
                  intro q
                  induction q with
                  | zero =>
                    intro i T3 hi hin
                    have : i = (G.getD d []).length := by omega
                    subst this
                    exact .inr ⟨T3, hin⟩
                  | succ q ihq =>
                    intro i T3 hi hin
                    have hil : i < (G.getD d []).length := by omega
                    have hx : (G.getD d []).getD i 0 ∈ G.getD d [] := by
                      rw [List.getD_eq_getElem?_getD (l := G.getD d []), List.getElem?_eq_getElem hil, Option.getD_some]
                      exact List.getElem_mem _
                    have hog := ((hgd.fit d hdn).2 _ hx).1
                    rcases give_pure k G T3 ((G.getD d []).getD i 0) (by
                      have := un_lt (n := rs.length) hin.sub hdn hin.free hin.this
                      omega) hog hgd with ⟨G1, ht, hd1⟩ | ⟨T4, hf⟩
                    · have hl1 : d < G1.length := by rw [hd1.len]; exact hdn
                      exact .inl ⟨_, hin.put ht hl1 hil, hd1.put hdn hg h2⟩
                    · exact ihq (i + 1) T4 (by omega) (hin.next hf)
                rcases inner _ 0 _ (Nat.zero_add _) (hl.enter h1) with h | ⟨T4, h⟩
                · exact .inl h
                · exact ih (d + 1) T4 (by omega) (h.leave (by omega))
        · exact ih (d + 1) T1 (by omega) (hl.skip (.inl h0))
    exact outer rs.length 0 T (by omega) GLoop.start
end
theorem Mt_or_short (l : List (List Int)) (rs : List Int) : Mt l rs ∨ Short l rs := by
  have step : ∀ k, k ≤ l.length → (∃ G, Gd rs (fun x => l.getD x []) l.length G ∧ G.flatten.Perm (List.range k)) ∨ Short l rs := by
    intro k
    induction k with
    | zero =>
      intro _
      refine .inl ⟨List.replicate rs.length [], ⟨by simp, fun j hj => ?_⟩, by simp⟩
      have : (List.replicate rs.length ([] : List Nat)).getD j [] = [] := by
        rw [List.getD_eq_getElem?_getD, List.getElem?_replicate]; split <;> rfl
      rw [this]
      exact ⟨by simp; omega, by simp⟩
    | succ k ih =>
      intro hk
      rcases ih (by omega) with ⟨G, hG, hp⟩ | h
      · rcases give_pure _ G (fun _ => false) k (Nat.lt_succ_self _) (by omega) hG with ⟨G', ht, hG'⟩ | ⟨T', hf⟩
        · refine .inl ⟨G', hG', ?_⟩
          rw [List.range_succ]
          exact ht.perm.trans ((hp.cons k).trans (List.perm_append_singleton k _).symm)
        · exact .inr (given_short hG hp (by omega) hf)
      · exact .inr h
  rcases step l.length (Nat.le_refl _) with ⟨G, hG, hp⟩ | h
  · exact .inl (given_all hG hp)
  · exact .inr h
end Go.BW

