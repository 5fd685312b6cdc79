/- Disks in the order of their room, in plain Lean: the one order (bef), its row (Ranked), the insertion of one more; each under the premises that it states. -/
import Derived.WalkKit
namespace Go.BW

/-- disk a stands ahead of disk b -/
def bef (rs : List Int) (a b : Nat) : Prop := rs.getD b 0 < rs.getD a 0 ∨ (rs.getD a 0 = rs.getD b 0 ∧ a < b)
theorem bef_trans {rs : List Int} {a b c : Nat} (h : bef rs a b) (k : bef rs b c) : bef rs a c := by
  unfold bef at *; omega
theorem bef_irrefl {rs : List Int} {a : Nat} : ¬ bef rs a a := by unfold bef; omega
theorem bef_asymm {rs : List Int} {a b : Nat} (h : bef rs a b) : ¬ bef rs b a := by unfold bef at *; omega
theorem bef_total {rs : List Int} {a b : Nat} (h : a ≠ b) : bef rs a b ∨ bef rs b a := by unfold bef; omega

/-- the disks that may be, in their order -/
structure Ranked (rs : List Int) (may : Nat → Prop) (l : List Nat) : Prop where
  ord : l.Pairwise (bef rs)
  mem : ∀ d, d ∈ l ↔ d < rs.length ∧ 0 < rs.getD d 0 ∧ may d

theorem Ranked.nodup {rs : List Int} {may : Nat → Prop} {l : List Nat} (h : Ranked rs may l) : l.Nodup :=
  h.ord.imp fun {a b} hab e => by subst e; exact bef_irrefl hab

/-- the first of what is left -/
theorem Ranked.first {rs : List Int} {may : Nat → Prop} {l : List Nat} (h : Ranked rs may l) {k : Nat} (hk : k < l.length) (e : Nat) (he : e < rs.length) (h0 : 0 < rs.getD e 0) (hm : may e) (hn : e ∉ l.take k) (hne : e ≠ l[k]) :
    bef rs l[k] e := by
  have hmem : e ∈ l := (h.mem e).2 ⟨he, h0, hm⟩
  obtain ⟨i, hi, rfl⟩ := List.getElem_of_mem hmem
  have hki : k < i := by
    rcases Nat.lt_trichotomy i k with hlt | heq | hgt
    · exact absurd (List.mem_take_iff_getElem.2 ⟨i, by omega, rfl⟩) hn
    · subst heq; exact absurd rfl hne
    · exact hgt
  exact List.pairwise_iff_getElem.1 h.ord k i hk hi hki

/-- the numbers as they stand in a slice of ints -/
def nz (l : List Nat) : List Int := l.map fun (d : Nat) => (d : Int)
theorem mem_nz {l : List Nat} {x : Int} : x ∈ nz l ↔ ∃ d ∈ l, (d : Int) = x := List.mem_map
/-- what the document takes next: the one with the most room (the least of these) that does not stand in a list; -1: none -/
def MostOf (rs : List Int) (no : List Int) (r : Int) : Prop :=
  (r = -1 ∧ ∀ d, d < rs.length → 0 < rs.getD d 0 → (d : Int) ∈ no) ∨
  ∃ d : Nat, r = d ∧ d < rs.length ∧ 0 < rs.getD d 0 ∧ (d : Int) ∉ no ∧ ∀ e, e < rs.length → 0 < rs.getD e 0 → (e : Int) ∉ no → e ≠ d → bef rs d e

theorem MostOf.uniq {rs no : List Int} {r s : Int} (h : MostOf rs no r) (k : MostOf rs no s) : r = s := by
  rcases h with ⟨rfl, h⟩ | ⟨d, rfl, h1, h2, h3, h4⟩
  · rcases k with ⟨rfl, _⟩ | ⟨e, rfl, k1, k2, k3, _⟩
    · rfl
    · exact absurd (h e k1 k2) k3
  · rcases k with ⟨rfl, k⟩ | ⟨e, rfl, k1, k2, k3, k4⟩
    · exact absurd (k d h1 h2) h3
    · by_cases hde : d = e
      · rw [hde]
      · exact absurd (h4 e k1 k2 k3 (fun x => hde x.symm)) (bef_asymm (k4 d h1 h2 h3 hde))

/-- .. is the next of the row -/
theorem Ranked.most {rs : List Int} {no : List Int} {l : List Nat} (h : Ranked rs (fun d => (d : Int) ∉ no) l) {k : Nat} (hk : k ≤ l.length) :
    MostOf rs (no ++ nz (l.take k)) (match l[k]? with | some d => (d : Int) | none => -1) := by
  by_cases hlt : k < l.length
  · rw [List.getElem?_eq_getElem hlt]
    right
    have hm := (h.mem l[k]).1 (List.getElem_mem hlt)
    refine ⟨l[k], rfl, hm.1, hm.2.1, ?_, ?_⟩
    · intro hx
      rcases List.mem_append.1 hx with hx | hx
      · exact hm.2.2 hx
      · obtain ⟨d, hd, e⟩ := mem_nz.1 hx
        have e' : d = l[k] := by omega
        subst e'
        obtain ⟨i, hi, e2⟩ := List.mem_take_iff_getElem.1 hd
        have := List.pairwise_iff_getElem.1 h.ord i k (by omega) hlt (by omega)
        rw [e2] at this
        exact bef_irrefl this
    · intro e he h0 hn hne
      refine h.first hlt e he h0 (fun hx => hn (List.mem_append_left _ hx)) (fun hx => hn (List.mem_append_right _ (mem_nz.2 ⟨e, hx, rfl⟩))) hne
  · have hk' : k = l.length := by omega
    rw [List.getElem?_eq_none (by omega)]
    left
    refine ⟨rfl, fun d hd h0 => ?_⟩
    by_cases hno : (d : Int) ∈ no
    · exact List.mem_append_left _ hno
    · refine List.mem_append_right _ (mem_nz.2 ⟨d, ?_, rfl⟩)
      rw [hk', List.take_length]
      exact (h.mem d).2 ⟨hd, h0, hno⟩

/-- there is one row -/
theorem Ranked.uniq {rs : List Int} {may : Nat → Prop} {l l' : List Nat} (h : Ranked rs may l) (h' : Ranked rs may l') : l = l' := by
  have hp : l.Perm l' := (List.perm_ext_iff_of_nodup h.nodup h'.nodup).2 fun d => (h.mem d).trans (h'.mem d).symm
  exact List.Perm.eq_of_pairwise (le := bef rs) (fun a b _ _ h1 h2 => absurd h2 (bef_asymm h1)) h.ord h'.ord hp

/-! ### insertion -/
/-- x goes down into a sorted row S: behind it stand what is less -/
theorem ins_stop {rs : List Int} {S : List Nat} {x j : Nat} (hS : S.Pairwise (bef rs)) (hj : j ≤ S.length) (hhi : ∀ y ∈ S.drop j, bef rs x y) (hlo : ∀ y ∈ S, y < x) (hst : j = 0 ∨ ∃ h : j - 1 < S.length, ¬ (rs.getD S[j - 1] 0 < rs.getD x 0)) :
    (S.take j ++ x :: S.drop j).Pairwise (bef rs) := by
  rw [List.pairwise_append]
  have hS2 := hS
  rw [← List.take_append_drop j S, List.pairwise_append] at hS2
  refine ⟨hS2.1, List.pairwise_cons.2 ⟨hhi, hS2.2.1⟩, fun a ha b hb => ?_⟩
  rcases List.mem_cons.1 hb with rfl | hb
  · rcases hst with h0 | ⟨h1, h2⟩
    · subst h0; simp at ha
    · have hlast : bef rs S[j - 1] b := by
        have := hlo S[j - 1] (List.getElem_mem _)
        unfold bef; omega
      obtain ⟨i, hi, rfl⟩ := List.mem_take_iff_getElem.1 ha
      by_cases hij : i = j - 1
      · subst hij; exact hlast
      · exact bef_trans (List.pairwise_iff_getElem.1 hS i (j - 1) (by omega) h1 (by omega)) hlast
  · exact hS2.2.2 a ha b hb
end Go.BW

