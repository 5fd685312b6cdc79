/- Either each of the groups can be given a disk, or some set of disks is short: by the giving itself, in plain Lean. -/
import Derived.Test.YtobifmndpkjlmaaJC
import Derived.Test.YtobifmndpkjlmaaJM
set_option linter.unusedVariables false
set_option linter.unusedSimpArgs false
/- Either each of the groups can be given a disk, or some set of disks is short: by the giving itself, in plain Lean. -/
namespace Go.BW
section
variable {rs : List Int} {L : Nat → List Int} {N : Nat}
theorem give_pure : ∀ (k : Nat) (G : List (List Nat)) (T : Nat → Bool) (g : Nat), un rs.length T < k → g < N → Gd rs L N G → (∃ G', GTrue G T g G' ∧ Gd rs L N G') ∨ ∃ T', GFalse rs L G T g T'
  | 0, _, _, _, h, _, _ => absurd h (by omega)
  | k + 1, G, T, g, hun, hg, hgd => by
    have outer : ∀ (m d : Nat) (T1 : Nat → Bool), d + m = rs.length → GLoop rs L G T g d T1 → (∃ G', GTrue G T g G' ∧ Gd rs L N G') ∨ ∃ T', GFalse rs L G T g T' := by
      intro m
      induction m with
      | zero =>
        intro d T1 hd hl
        have : d = rs.length := by omega
        subst this
        exact .inr ⟨T1, hl.fin⟩
      | succ m ih =>
        intro d T1 hd hl
        by_cases h0 : 0 < rs.getD d 0
        · by_cases h1 : T1 d = true
          · exact ih (d + 1) T1 (by omega) (hl.skip (.inr (.inl h1)))
          · have h1 : T1 d = false := by simpa using h1
            by_cases h2 : (d : Int) ∈ L g
            · exact ih (d + 1) T1 (by omega) (hl.skip (.inr (.inr h2)))
            · have hdn : d < rs.length := by omega
              by_cases h3 : ((G.getD d []).length : Int) < rs.getD d 0
              · exact .inl ⟨_, hl.push h1 (by rw [hgd.len]; exact hdn), hgd.push hdn hg h2 h3⟩
              · have inner : ∀ (q i : Nat) (T3 : Nat → Bool), i + q = (G.getD d []).length → GIn rs L G T g d i T3 → (∃ G', GTrue G T g G' ∧ Gd rs L N G') ∨ ∃ T4, GIn rs L G T g d (G.getD d []).length T4 := by
                  intro q
                  induction q with
                  | zero =>
                    intro i T3 hi hin
                    have : i = (G.getD d []).length := by omega
                    subst this
                    exact .inr ⟨T3, hin⟩
                  | succ q ihq =>
                    intro i T3 hi hin
                    have hil : i < (G.getD d []).length := by omega
                    have hx : (G.getD d []).getD i 0 ∈ G.getD d [] := by
                      rw [List.getD_eq_getElem?_getD (l := G.getD d []), List.getElem?_eq_getElem hil, Option.getD_some]
                      exact List.getElem_mem _
                    have hog := ((hgd.fit d hdn).2 _ hx).1
                    rcases give_pure k G T3 ((G.getD d []).getD i 0) (by
                      have := un_lt (n := rs.length) hin.sub hdn hin.free hin.this
                      omega) hog hgd with ⟨G1, ht, hd1⟩ | ⟨T4, hf⟩
                    · have hl1 : d < G1.length := by rw [hd1.len]; exact hdn
                      exact .inl ⟨_, hin.put ht hl1 hil, hd1.put hdn hg h2⟩
                    · exact ihq (i + 1) T4 (by omega) (hin.next hf)
                rcases inner _ 0 _ (Nat.zero_add _) (hl.enter h1) with h | ⟨T4, h⟩
                · exact .inl h
                · exact ih (d + 1) T4 (by omega) (h.leave (by omega))
        · exact ih (d + 1) T1 (by omega) (hl.skip (.inl h0))
    exact outer rs.length 0 T (by omega) GLoop.start
end
theorem Mt_or_short (l : List (List Int)) (rs : List Int) : Mt l rs ∨ Short l rs := by
  have step : ∀ k, k ≤ l.length → (∃ G, Gd rs (fun x => l.getD x []) l.length G ∧ G.flatten.Perm (List.range k)) ∨ Short l rs := by
    intro k
    induction k with
    | zero =>
      intro _
      refine .inl ⟨List.replicate rs.length [], ⟨by simp, fun j hj => ?_⟩, by simp⟩
      have : (List.replicate rs.length ([] : List Nat)).getD j [] = [] := by
        rw [List.getD_eq_getElem?_getD, List.getElem?_replicate]; split <;> rfl
      rw [this]
      exact ⟨by simp; omega, by simp⟩
    | succ k ih =>
      intro hk
      rcases ih (by omega) with ⟨G, hG, hp⟩ | h
      · rcases give_pure _ G (fun _ => false) k (Nat.lt_succ_self _) (by omega) hG with ⟨G', ht, hG'⟩ | ⟨T', hf⟩
        · refine .inl ⟨G', hG', ?_⟩
          rw [List.range_succ]
          exact ht.perm.trans ((hp.cons k).trans (List.perm_append_singleton k _).symm)
        · exact .inr (given_short hG hp (by omega) hf)
      · exact .inr h
  rcases step l.length (Nat.le_refl _) with ⟨G, hG, hp⟩ | h
  · exact .inl (given_all hG hp)
  · exact .inr h
end Go.BW


/- A rebuild's step, in plain Lean and in memory, for the law GroupRehomes. -/
namespace Go.Proofs.Ytobifmndpkjlmaa
open Go.RowKit Go.BW

theorem hall_iff (gs : List Gp) (rs : List Int) (lost : Int) : hallB gs rs lost = true ↔ Mt (lks (needs gs lost)) rs := by
  constructor
  · intro h
    rcases Mt_or_short (lks (needs gs lost)) rs with h1 | h1
    · exact h1
    · rw [hallB_false h1] at h; cases h
  · exact hallB_true
theorem needs_none {gs : List Gp} {lost : Int} (h : gs.any (fun g => hasD g lost) = false) : needs gs lost = [] := by
  unfold needs
  rw [List.filter_eq_nil_iff]
  intro a ha
  exact List.any_eq_false.1 h a ha
theorem needs_first {gs : List Gp} {lost : Int} {i : Nat} {x : Gp} (hx : gs[i]? = some x) (hh : hasD x lost = true) (hf : (gs.take i).any (fun g => hasD g lost) = false) : needs gs lost = x :: needs (gs.drop (i + 1)) lost := by
  obtain ⟨hi, rfl⟩ := List.getElem?_eq_some_iff.1 hx
  have e : gs = gs.take i ++ gs[i] :: gs.drop (i + 1) := by rw [← List.drop_eq_getElem_cons hi, List.take_append_drop]
  have h1 : needs gs lost = needs (gs.take i) lost ++ needs (gs[i] :: gs.drop (i + 1)) lost := by
    unfold needs
    rw [← List.filter_append, ← e]
  rw [h1, needs_none hf, List.nil_append]
  unfold needs
  rw [List.filter_cons, if_pos hh]
/-- what a step leaves -/
def moveE (lost d : Int) (es : List Et) : List Et := es.map fun e => if e.dk = lost then ⟨d, e.pl⟩ else e
def withE (x : Gp) (es : List Et) : Gp := ⟨x.id, x.kd, x.A, x.n, x.c, es⟩
theorem moveE_none {x : Gp} {lost d : Int} (hd : d ≠ lost) : hasD (withE x (moveE lost d x.es)) lost = false := by
  rw [hasD_not]
  unfold dks withE moveE
  simp only [List.map_map, List.mem_map, Function.comp_def, not_exists, not_and]
  intro e _ h
  split at h
  · exact hd h
  · next hn => exact hn h
theorem needs_after {gs : List Gp} {lost d : Int} {i : Nat} {x : Gp} (hx : gs[i]? = some x) (hf : (gs.take i).any (fun g => hasD g lost) = false) (hd : d ≠ lost) :
    needs (gs.set i (withE x (moveE lost d x.es))) lost = needs (gs.drop (i + 1)) lost := by
  obtain ⟨hi, rfl⟩ := List.getElem?_eq_some_iff.1 hx
  rw [List.set_eq_take_append_cons_drop, if_pos hi]
  unfold needs
  rw [List.filter_append, List.filter_cons]
  have h1 := needs_none hf
  unfold needs at h1
  rw [h1, List.nil_append]
  have h2 : hasD (withE gs[i] (moveE lost d gs[i].es)) lost = false := moveE_none hd
  simp [h2]
/-- where it is safe, Move finds a disk, and it stays safe -/
theorem move_some {gs : List Gp} {rs : List Int} {lost : Int} {r : Option (Nat × Nat)} (h : MoveIs gs rs lost r) (hm : Mt (lks (needs gs lost)) rs) (hn : needs gs lost ≠ []) :
    ∃ i d x, r = some (i, d) ∧ gs[i]? = some x ∧ d < rs.length ∧ 0 < rs.getD d 0 ∧ hasD x (d : Int) = false ∧ hasD x lost = true ∧ (gs.take i).any (fun g => hasD g lost) = false ∧ Mt (lks (needs (gs.drop (i + 1)) lost)) (lessAt rs d) := by
  cases h with
  | none h => exact absurd (needs_none h) hn
  | stuck i x l hx hh hf hl hno =>
    exfalso
    rw [needs_first hx hh hf] at hm
    obtain ⟨d, hd, h0, hnd, hm2⟩ := hm
    have h1 : hasD x (d : Int) = false := (hasD_not x _).2 hnd
    have := hno d ((hl.mem d).2 ⟨hd, h0, by rw [h1]; rfl⟩)
    unfold okM at this
    have h2 : hallB (gs.drop (i + 1)) (lessAt rs d) lost = true := (hall_iff _ _ _).2 hm2
    rw [h2] at this; cases this
  | goes i x l k d hx hh hf hl hk hd hno =>
    have h1 := (hl.mem d).1 (List.mem_of_getElem? hk)
    refine ⟨i, d, x, rfl, hx, h1.1, h1.2.1, by simpa using h1.2.2, hh, hf, ?_⟩
    unfold okM at hd
    exact (hall_iff _ _ _).1 hd
/-- .. and where it does, it was safe -/
theorem move_safe {gs : List Gp} {rs : List Int} {lost : Int} {i d : Nat} (h : MoveIs gs rs lost (some (i, d))) : Mt (lks (needs gs lost)) rs := by
  cases h with
  | goes i x l k d hx hh hf hl hk hd hno =>
    have h1 := (hl.mem d).1 (List.mem_of_getElem? hk)
    rw [needs_first hx hh hf]
    refine ⟨d, h1.1, h1.2.1, (hasD_not x _).1 (by simpa using h1.2.2), ?_⟩
    unfold okM at hd
    exact (hall_iff _ _ _).1 hd
theorem move_none {gs : List Gp} {rs : List Int} {lost : Int} {r : Option (Nat × Nat)} (h : MoveIs gs rs lost r) (hn : needs gs lost = []) : r = none := by
  cases h with
  | none h => rfl
  | stuck i x l hx hh hf hl hno => rfl
  | goes i x l k d hx hh hf hl hk hd hno => rw [needs_first hx hh hf] at hn; cases hn
/-! ### in memory -/
theorem gc_withE (gs : List Gp) (i : Nat) (x : Gp) (es : List Et) (hx : gs[i]? = some x) : fl gc (gs.set i (withE x es)) = fl gc gs := by
  unfold fl
  have : (gs.set i (withE x es)).map gc = gs.map gc := by
    rw [List.map_set]
    refine List.ext_getElem? fun j => ?_
    rw [List.getElem?_set]
    split
    · next hj =>
      subst hj
      obtain ⟨hi, rfl⟩ := List.getElem?_eq_some_iff.1 hx
      simp [hi, withE, gc]
    · rfl
  rw [this]
theorem GsO.setE {w w' : World} {base i b : Nat} {gs : List Gp} {x : Gp} {es : List Et} (h : GsO w base gs) (hx : gs[i]? = some x) (hb : (Value.slice x.A x.n x.c).ownBlock = some b) (k : w.grownBy w' (some b)) (hn : Own w' base 39 2 x.A x.n x.c (fl ec es)) :
    GsO w' base (gs.set i (withE x es)) := by
  obtain ⟨hi, hxe⟩ := List.getElem?_eq_some_iff.1 hx
  have hap := List.pairwise_iff_getElem.1 h.apart
  have hd : ∀ j (hj : j < (gs.set i (withE x es)).length), ∃ hj' : j < gs.length, (gs.set i (withE x es))[j].A = gs[j].A ∧ (gs.set i (withE x es))[j].n = gs[j].n ∧ (gs.set i (withE x es))[j].c = gs[j].c := fun j hj => by
    have hj' : j < gs.length := by simpa using hj
    refine ⟨hj', ?_⟩
    rw [List.getElem_set]
    split
    · next e => subst e; rw [hxe]; exact ⟨rfl, rfl, rfl⟩
    · exact ⟨rfl, rfl, rfl⟩
  refine ⟨fun g hg => ?_, ?_⟩
  · obtain ⟨j, hj⟩ := List.getElem?_of_mem hg
    rw [List.getElem?_set] at hj
    split at hj
    · next e =>
      try rw [if_pos hi] at hj
      injection hj with hj; subst hj
      exact hn
    · next e =>
      obtain ⟨hj1, hj2⟩ := List.getElem?_eq_some_iff.1 hj
      refine (h.own g (List.mem_of_getElem? hj)).kept k (fun y hy e2 => ?_)
      injection hy with hy; subst hy
      rcases Nat.lt_or_gt_of_ne e with hlt | hlt
      · have := hap i j hi hj1 hlt b (by rw [hxe]; exact hb)
        rw [hj2] at this
        exact this e2
      · have := hap j i hj1 hi hlt b (by rw [hj2]; exact e2)
        rw [hxe] at this
        exact this hb
  · rw [List.pairwise_iff_getElem]
    intro p q hp hq hpq y hy
    obtain ⟨hp', p1, p2, p3⟩ := hd p hp
    obtain ⟨hq', q1, q2, q3⟩ := hd q hq
    rw [p1, p2, p3] at hy
    rw [q1, q2, q3]
    exact hap p q hp' hq' hpq y hy
end Go.Proofs.Ytobifmndpkjlmaa

