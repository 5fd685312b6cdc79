/- Rooms on two disks that nobody has, in plain Lean, for the law GroupSpares. -/
import Derived.Test.YtobifmndpkjlmaaMR
namespace Go.Proofs.Ytobifmndpkjlmaa
open Go.RowKit Go.BW

/-- extents on unlike disks from 0 to 5 -/
structure GoodE (es : List Et) : Prop where
  lt : ∀ e ∈ es, 0 ≤ e.dk ∧ e.dk < 6
  nd : (es.map (·.dk)).Nodup
def two8 (a b : Int) : List Int := [0, 0, 0, 0, 0, 0, a, b]
theorem Mt_two : ∀ (l : List (List Int)) (a b : Nat), (∀ g ∈ l, (6 : Int) ∉ g ∧ (7 : Int) ∉ g) → l.length ≤ a + b → Mt l (two8 a b)
  | [], _, _, _, _ => trivial
  | g :: l, 0, b, hg, hl => by
    obtain ⟨b', rfl⟩ : ∃ b', b = b' + 1 := ⟨b - 1, by simp at hl; omega⟩
    refine ⟨7, by simp [two8], by simp only [two8, List.getD_cons_succ, List.getD_cons_zero]; omega, (hg g (by simp)).2, ?_⟩
    have e : (two8 (0 : Nat) ((b' + 1 : Nat) : Int)).set 7 ((two8 (0 : Nat) ((b' + 1 : Nat) : Int)).getD 7 0 - 1) = two8 (0 : Nat) (b' : Nat) := by
      simp [two8]
    rw [e]
    exact Mt_two l 0 b' (fun x hx => hg x (List.mem_cons_of_mem _ hx)) (by simp at hl; omega)
  | g :: l, a + 1, b, hg, hl => by
    refine ⟨6, by simp [two8], by simp only [two8, List.getD_cons_succ, List.getD_cons_zero]; omega, (hg g (by simp)).1, ?_⟩
    have e : (two8 ((a + 1 : Nat) : Int) (b : Nat)).set 6 ((two8 ((a + 1 : Nat) : Int) (b : Nat)).getD 6 0 - 1) = two8 (a : Nat) (b : Nat) := by
      simp [two8]
    rw [e]
    exact Mt_two l a b (fun x hx => hg x (List.mem_cons_of_mem _ hx)) (by simp at hl; omega)
theorem cnt_group {es : List Et} (h : (es.map (·.dk)).Nodup) (d : Int) : cntE es d = if (es.any fun e => e.dk == d) then 1 else 0 := by
  have h1 : cntE es d = (es.map (·.dk)).count d := by
    unfold cntE
    rw [List.count_eq_countP, List.countP_map]
    rfl
  rw [h1]
  by_cases hm : d ∈ es.map (·.dk)
  · rw [h.count, if_pos hm]
    have : (es.any fun e => e.dk == d) = true := by
      rw [List.any_eq_true]
      obtain ⟨e, he, hd⟩ := List.mem_map.1 hm
      exact ⟨e, he, by simpa using hd⟩
    rw [this]; rfl
  · rw [List.count_eq_zero_of_not_mem hm]
    have : (es.any fun e => e.dk == d) = false := by
      rw [List.any_eq_false]
      intro e he hd
      exact hm (List.mem_map.2 ⟨e, he, by simpa using hd⟩)
    rw [this]; rfl
theorem cnt_needs : ∀ (gs : List Gp), (∀ g ∈ gs, GoodE g.es) → ∀ d : Int, cntE (allE gs) d = (needs gs d).length
  | [], _, _ => rfl
  | g :: gs, h, d => by
    have ih := cnt_needs gs (fun x hx => h x (List.mem_cons_of_mem _ hx)) d
    have e : allE (g :: gs) = g.es ++ allE gs := by simp [allE]
    rw [e, cntE_app, ih, cnt_group (h g (by simp)).nd]
    unfold needs hasD
    rw [List.filter_cons]
    split
    · rw [List.length_cons]; omega
    · omega
theorem good_67 {gs : List Gp} (h : ∀ g ∈ gs, GoodE g.es) (d : Int) : ∀ x ∈ lks (needs gs d), (6 : Int) ∉ x ∧ (7 : Int) ∉ x := by
  intro x hx
  obtain ⟨g, hg, rfl⟩ := List.mem_map.1 hx
  have hg' := h g (List.mem_filter.1 hg).1
  constructor <;> intro hm <;> obtain ⟨e, he, hd⟩ := List.mem_map.1 hm <;> have := hg'.lt e he <;> omega
/-- with as much room as the fullest has: safe -/
theorem spares_safe {gs : List Gp} (h : ∀ g ∈ gs, GoodE g.es) {v a b : Nat} {d : Int} (hs : SpareIs (allE gs) 6 v) (h0 : 0 ≤ d) (h6 : d < 6) (hab : v ≤ a + b) : Mt (lks (needs gs d)) (two8 a b) := by
  refine Mt_two _ _ _ (good_67 h d) ?_
  rw [lks_len, ← cnt_needs gs h]
  have := hs.up d h0 h6
  omega
/-- with one less: not, of one that is fullest -/
theorem spares_short {gs : List Gp} (h : ∀ g ∈ gs, GoodE g.es) {v a b : Nat} {d : Int} (hc : cntE (allE gs) d = v) (hab : a + b < v) : hallB gs (two8 a b) d = false := by
  refine hallB_false ⟨fun _ => true, ?_⟩
  have h1 : (lks (needs gs d)).countP (hangs (fun _ => true) (two8 a b)) = (lks (needs gs d)).length := by
    rw [List.countP_eq_length]
    intro x _
    exact (hangs_iff _ _ _).2 fun _ _ _ _ => rfl
  rw [h1, lks_len, ← cnt_needs gs h, hc]
  simp [two8, roomS]
  omega
theorem good_snoc {es : List Et} (h : GoodE es) {d : Int} (h0 : 0 ≤ d) (h6 : d < 6) (hn : d ∉ es.map (·.dk)) : GoodE (es ++ [⟨d, 0⟩]) := by
  refine ⟨fun e he => ?_, ?_⟩
  · rcases List.mem_append.1 he with he | he
    · exact h.lt e he
    · rw [List.mem_singleton] at he; subst he; exact ⟨h0, h6⟩
  · rw [List.map_append, List.nodup_append]
    refine ⟨h.nd, by simp, fun a ha b hb => ?_⟩
    simp at hb
    subst hb
    exact fun e => hn (e ▸ ha)
end Go.Proofs.Ytobifmndpkjlmaa

