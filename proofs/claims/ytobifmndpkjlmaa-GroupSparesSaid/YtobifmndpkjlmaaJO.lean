/- More room, fewer groups, in plain Lean, for the law GroupMore. -/
import Derived.Test.YtobifmndpkjlmaaJL
set_option linter.unusedVariables false
set_option linter.unusedSimpArgs false
/- More room, fewer groups, in plain Lean, for the law GroupMore. -/
namespace Go.Proofs.Ytobifmndpkjlmaa
open Go.RowKit Go.BW

/-- where there is room for all everywhere, each group that lacks a disk has one -/
theorem Mt_room : ∀ (l : List (List Int)) (rs : List Int), (∀ d, d < rs.length → (l.length : Int) ≤ rs.getD d 0) → (∀ g ∈ l, ∃ d, d < rs.length ∧ (d : Int) ∉ g) → Mt l rs
  | [], _, _, _ => trivial
  | g :: l, rs, hr, hg => by
    obtain ⟨d, hd, hn⟩ := hg g (by simp)
    have h0 := hr d hd
    simp only [List.length_cons] at h0 hr
    refine ⟨d, hd, by omega, hn, Mt_room l _ (fun e he => ?_) (fun x hx => ?_)⟩
    · rw [List.length_set] at he
      rw [getD_set _ _ _ _ hd]
      have := hr e he
      split <;> omega
    · obtain ⟨e, he, hne⟩ := hg x (List.mem_cons_of_mem _ hx)
      exact ⟨e, by simpa using he, hne⟩
theorem Mt_mem {l : List (List Int)} {rs : List Int} (h : Mt l rs) {g : List Int} (hg : g ∈ l) : ∃ d, d < rs.length ∧ 0 < rs.getD d 0 ∧ (d : Int) ∉ g := by
  have h1 : Mt [g] rs := Mt_sub (List.singleton_sublist.2 hg) rs h
  obtain ⟨d, hd, h0, hn, _⟩ := h1
  exact ⟨d, hd, h0, hn⟩
/-- has a group that has lost all disks? -/
def fullP (n : Nat) (lost : Int) (g : Gp) : Bool := hasD g lost && (List.range n).all fun (d : Nat) => hasD g (d : Int)
theorem full_step (n : Nat) (g : Gp) : ((List.range (n + 1)).all fun (d : Nat) => hasD g (d : Int)) = (((List.range n).all fun (d : Nat) => hasD g (d : Int)) && hasD g (n : Int)) := by
  rw [List.range_succ, List.all_append]; simp
theorem needs_len (gs : List Gp) (lost : Int) : (lks (needs gs lost)).length ≤ gs.length := by rw [lks_len]; exact List.length_filter_le _ _
/-- room for one more than there are groups, everywhere -/
theorem full_iff {gs : List Gp} {n : Nat} {lost : Int} : Mt (lks (needs gs lost)) (List.replicate n ((gs.length + 1 : Nat) : Int)) ↔ gs.any (fullP n lost) = false := by
  have hget : ∀ d, d < n → (List.replicate n ((gs.length + 1 : Nat) : Int)).getD d 0 = ((gs.length + 1 : Nat) : Int) := fun d hd => by
    rw [List.getD_eq_getElem?_getD, List.getElem?_replicate, if_pos hd]; rfl
  constructor
  · intro h
    rw [List.any_eq_false]
    intro g hg hf
    unfold fullP at hf
    rw [Bool.and_eq_true] at hf
    have hm : dks g ∈ lks (needs gs lost) := List.mem_map.2 ⟨g, List.mem_filter.2 ⟨hg, hf.1⟩, rfl⟩
    obtain ⟨d, hd, _, hn⟩ := Mt_mem h hm
    rw [List.length_replicate] at hd
    have := List.all_eq_true.1 hf.2 d (List.mem_range.2 hd)
    rw [hasD_iff] at this
    exact hn this
  · intro h
    refine Mt_room _ _ (fun d hd => ?_) (fun x hx => ?_)
    · rw [List.length_replicate] at hd
      rw [hget d hd]
      have := needs_len gs lost
      omega
    · obtain ⟨g, hg, rfl⟩ := List.mem_map.1 hx
      obtain ⟨hg1, hg2⟩ := List.mem_filter.1 hg
      have h1 := List.any_eq_false.1 h g hg1
      unfold fullP at h1
      rw [hg2, Bool.true_and, List.all_eq_true] at h1
      rw [List.length_replicate]
      refine Classical.byContradiction fun hno => h1 fun d hd => ?_
      rw [hasD_iff]
      refine Classical.byContradiction fun hn => hno ⟨d, List.mem_range.1 hd, hn⟩
theorem needs_sub {gs' gs : List Gp} (h : gs'.Sublist gs) (lost : Int) : (lks (needs gs' lost)).Sublist (lks (needs gs lost)) := (h.filter _).map _
theorem cut_sub (gs : List Gp) (n : Nat) : (gs.take n ++ gs.drop (n + 1)).Sublist gs := by
  have h : gs.take n ++ gs.drop n = gs := List.take_append_drop n gs
  conv => rhs; rw [← h]
  refine List.Sublist.append (List.Sublist.refl _) ?_
  rw [← List.drop_drop]
  exact List.drop_sublist 1 _
/-- one room more at one disk -/
theorem more_mono {l : List (List Int)} {rs : List Int} {k : Nat} (h : Mt l rs) : Mt l (rs.set k (max 0 (rs.getD k 0) + 1)) := by
  refine Mt_mono _ _ _ (by simp) (fun d hd => ?_) h
  by_cases hk : k < rs.length
  · rw [getD_set _ _ _ _ hk]
    split
    · next e => subst e; omega
    · omega
  · rw [List.set_eq_of_length_le (by omega)]; omega
/-- what Safe tells where each group can be given a disk -/
theorem safe_true {gs : List Gp} {rs : List Int} {lost : Int} {w w' : World} {e : Ending} (h : SafePost gs rs lost w e w') (hm : Mt (lks (needs gs lost)) rs) : e = .returned (.bool true) ∧ Nw w w' := by
  obtain ⟨b, h1, h2, h3, h4⟩ := h
  cases b
  · exact absurd (h3 rfl) (Mt_not_short hm)
  · exact ⟨h1, h4⟩
theorem safe_full {gs : List Gp} {n : Nat} {lost : Int} {w w' : World} {e : Ending} (h : SafePost gs (List.replicate n ((gs.length + 1 : Nat) : Int)) lost w e w') : e = .returned (.bool (!gs.any (fullP n lost))) ∧ Nw w w' := by
  obtain ⟨b, h1, h2, h3, h4⟩ := h
  refine ⟨?_, h4⟩
  rw [h1]
  cases b
  · have : gs.any (fullP n lost) = true := by
      rcases hf : gs.any (fullP n lost) with _ | _
      · exact absurd (h3 rfl) (Mt_not_short (full_iff.2 hf))
      · rfl
    rw [this]; rfl
  · rw [full_iff.1 (h2 rfl)]; rfl
end Go.Proofs.Ytobifmndpkjlmaa


/- Rooms on two disks that nobody has, in plain Lean, for the law GroupSpares. -/
namespace Go.Proofs.Ytobifmndpkjlmaa
open Go.RowKit Go.BW

/-- extents on unlike disks from 0 to 5 -/
structure GoodE (es : List Et) : Prop where
  lt : ∀ e ∈ es, 0 ≤ e.dk ∧ e.dk < 6
  nd : (es.map (·.dk)).Nodup
def two8 (a b : Int) : List Int := [0, 0, 0, 0, 0, 0, a, b]
theorem Mt_two : ∀ (l : List (List Int)) (a b : Nat), (∀ g ∈ l, (6 : Int) ∉ g ∧ (7 : Int) ∉ g) → l.length ≤ a + b → Mt l (two8 a b)
  | [], _, _, _, _ => trivial
  | g :: l, 0, b, hg, hl => by
    obtain ⟨b', rfl⟩ : ∃ b', b = b' + 1 := ⟨b - 1, by simp at hl; omega⟩
    refine ⟨7, by simp [two8], by simp only [two8, List.getD_cons_succ, List.getD_cons_zero]; omega, (hg g (by simp)).2, ?_⟩
    have e : (two8 (0 : Nat) ((b' + 1 : Nat) : Int)).set 7 ((two8 (0 : Nat) ((b' + 1 : Nat) : Int)).getD 7 0 - 1) = two8 (0 : Nat) (b' : Nat) := by
      simp [two8]
    rw [e]
    exact Mt_two l 0 b' (fun x hx => hg x (List.mem_cons_of_mem _ hx)) (by simp at hl; omega)
  | g :: l, a + 1, b, hg, hl => by
    refine ⟨6, by simp [two8], by simp only [two8, List.getD_cons_succ, List.getD_cons_zero]; omega, (hg g (by simp)).1, ?_⟩
    have e : (two8 ((a + 1 : Nat) : Int) (b : Nat)).set 6 ((two8 ((a + 1 : Nat) : Int) (b : Nat)).getD 6 0 - 1) = two8 (a : Nat) (b : Nat) := by
      simp [two8]
    rw [e]
    exact Mt_two l a b (fun x hx => hg x (List.mem_cons_of_mem _ hx)) (by simp at hl; omega)
theorem cnt_group {es : List Et} (h : (es.map (·.dk)).Nodup) (d : Int) : cntE es d = if (es.any fun e => e.dk == d) then 1 else 0 := by
  have h1 : cntE es d = (es.map (·.dk)).count d := by
    unfold cntE
    rw [List.count_eq_countP, List.countP_map]
    rfl
  rw [h1]
  by_cases hm : d ∈ es.map (·.dk)
  · rw [h.count, if_pos hm]
    have : (es.any fun e => e.dk == d) = true := by
      rw [List.any_eq_true]
      obtain ⟨e, he, hd⟩ := List.mem_map.1 hm
      exact ⟨e, he, by simpa using hd⟩
    rw [this]; rfl
  · rw [List.count_eq_zero_of_not_mem hm]
    have : (es.any fun e => e.dk == d) = false := by
      rw [List.any_eq_false]
      intro e he hd
      exact hm (List.mem_map.2 ⟨e, he, by simpa using hd⟩)
    rw [this]; rfl
theorem cnt_needs : ∀ (gs : List Gp), (∀ g ∈ gs, GoodE g.es) → ∀ d : Int, cntE (allE gs) d = (needs gs d).length
  | [], _, _ => rfl
  | g :: gs, h, d => by
    have ih := cnt_needs gs (fun x hx => h x (List.mem_cons_of_mem _ hx)) d
    have e : allE (g :: gs) = g.es ++ allE gs := by simp [allE]
    rw [e, cntE_app, ih, cnt_group (h g (by simp)).nd]
    unfold needs hasD
    rw [List.filter_cons]
    split
    · rw [List.length_cons]; omega
    · omega
theorem good_67 {gs : List Gp} (h : ∀ g ∈ gs, GoodE g.es) (d : Int) : ∀ x ∈ lks (needs gs d), (6 : Int) ∉ x ∧ (7 : Int) ∉ x := by
  intro x hx
  obtain ⟨g, hg, rfl⟩ := List.mem_map.1 hx
  have hg' := h g (List.mem_filter.1 hg).1
  constructor <;> intro hm <;> obtain ⟨e, he, hd⟩ := List.mem_map.1 hm <;> have := hg'.lt e he <;> omega
/-- with as much room as the fullest has: safe -/
theorem spares_safe {gs : List Gp} (h : ∀ g ∈ gs, GoodE g.es) {v a b : Nat} {d : Int} (hs : SpareIs (allE gs) 6 v) (h0 : 0 ≤ d) (h6 : d < 6) (hab : v ≤ a + b) : Mt (lks (needs gs d)) (two8 a b) := by
  refine Mt_two _ _ _ (good_67 h d) ?_
  rw [lks_len, ← cnt_needs gs h]
  have := hs.up d h0 h6
  omega
/-- with one less: not, of one that is fullest -/
theorem spares_short {gs : List Gp} (h : ∀ g ∈ gs, GoodE g.es) {v a b : Nat} {d : Int} (hc : cntE (allE gs) d = v) (hab : a + b < v) : hallB gs (two8 a b) d = false := by
  refine hallB_false ⟨fun _ => true, ?_⟩
  have h1 : (lks (needs gs d)).countP (hangs (fun _ => true) (two8 a b)) = (lks (needs gs d)).length := by
    rw [List.countP_eq_length]
    intro x _
    exact (hangs_iff _ _ _).2 fun _ _ _ _ => rfl
  rw [h1, lks_len, ← cnt_needs gs h, hc]
  simp [two8, roomS]
  omega
theorem good_snoc {es : List Et} (h : GoodE es) {d : Int} (h0 : 0 ≤ d) (h6 : d < 6) (hn : d ∉ es.map (·.dk)) : GoodE (es ++ [⟨d, 0⟩]) := by
  refine ⟨fun e he => ?_, ?_⟩
  · rcases List.mem_append.1 he with he | he
    · exact h.lt e he
    · rw [List.mem_singleton] at he; subst he; exact ⟨h0, h6⟩
  · rw [List.map_append, List.nodup_append]
    refine ⟨h.nd, by simp, fun a ha b hb => ?_⟩
    simp at hb
    subst hb
    exact fun e => hn (e ▸ ha)
end Go.Proofs.Ytobifmndpkjlmaa

