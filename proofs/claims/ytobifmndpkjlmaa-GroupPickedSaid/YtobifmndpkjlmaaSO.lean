/- Rows in blocks: what the library's stable sort keeps. -/
import Derived.Test.YtobifmndpkjlmaaSN
namespace Go.Proofs.Ytobifmndpkjlmaa
open Go.RowKit Go.BW

def Lt2 (X Y : List Nat) : Prop := ∀ x ∈ X, ∀ y ∈ Y, x < y
/-- blocks ds of one length, blocks es of another, and a rest -/
structure Blk (rs : List Int) (D B : Nat) (ds es : List (List Nat)) (last L : List Nat) : Prop where
  sorted : ∀ X ∈ ds ++ es, X.Pairwise (bef rs)
  ord : (ds ++ (es ++ [last])).Pairwise Lt2
  dsize : ∀ X ∈ ds, X.length = D
  esize : ∀ X ∈ es, X.length = B
  perm : (ds.flatten ++ (es.flatten ++ last)).Perm L
theorem flat_len {B : Nat} : ∀ {es : List (List Nat)}, (∀ X ∈ es, X.length = B) → es.flatten.length = es.length * B
  | [], _ => by simp
  | X :: es, h => by
    rw [List.flatten_cons, List.length_append, h X (List.mem_cons_self ..), flat_len (fun Y hY => h Y (List.mem_cons_of_mem _ hY)), List.length_cons, Nat.add_mul]; omega
theorem Blk.len {rs : List Int} {D B : Nat} {ds es : List (List Nat)} {last L : List Nat} (h : Blk rs D B ds es last L) : ds.length * D + es.length * B + last.length = L.length := by
  have := h.perm.length_eq
  rw [List.length_append, List.length_append, flat_len h.dsize, flat_len h.esize] at this
  omega
theorem ord_merge {P Q : List (List Nat)} {x y M : List Nat} (h : (P ++ (x :: y :: Q)).Pairwise Lt2) (hp : M.Perm (x ++ y)) : (P ++ (M :: Q)).Pairwise Lt2 := by
  rw [List.pairwise_append] at h ⊢
  obtain ⟨h1, h2, h3⟩ := h
  obtain ⟨hx, h2⟩ := List.pairwise_cons.1 h2
  obtain ⟨hy, h2⟩ := List.pairwise_cons.1 h2
  refine ⟨h1, List.pairwise_cons.2 ⟨fun q hq a ha b hb => ?_, h2⟩, fun p hp1 q hq => ?_⟩
  · rcases List.mem_append.1 ((hp.mem_iff).1 ha) with ha | ha
    · exact hx q (List.mem_cons_of_mem _ hq) a ha b hb
    · exact hy q hq a ha b hb
  · rcases List.mem_cons.1 hq with rfl | hq
    · intro a ha b hb
      rcases List.mem_append.1 ((hp.mem_iff).1 hb) with hb | hb
      · exact h3 p hp1 x (List.mem_cons_self ..) a ha b hb
      · exact h3 p hp1 y (List.mem_cons_of_mem _ (List.mem_cons_self ..)) a ha b hb
    · exact h3 p hp1 q (List.mem_cons_of_mem _ (List.mem_cons_of_mem _ hq))
/-- two blocks become one -/
theorem Blk.step {rs : List Int} {D B : Nat} {ds es : List (List Nat)} {x y last L M : List Nat} (h : Blk rs D B ds (x :: y :: es) last L) (hD : D = B + B) (hp : M.Perm (x ++ y)) (hM : M.Pairwise (bef rs)) : Blk rs D B (ds ++ [M]) es last L := by
  refine ⟨fun X hX => ?_, ?_, fun X hX => ?_, fun X hX => h.esize X (List.mem_cons_of_mem _ (List.mem_cons_of_mem _ hX)), ?_⟩
  · rcases List.mem_append.1 hX with hX | hX
    · rcases List.mem_append.1 hX with hX | hX
      · exact h.sorted X (List.mem_append_left _ hX)
      · rw [List.mem_singleton] at hX; subst hX; exact hM
    · exact h.sorted X (List.mem_append_right _ (List.mem_cons_of_mem _ (List.mem_cons_of_mem _ hX)))
  · have := ord_merge (P := ds) (Q := es ++ [last]) h.ord hp
    simpa using this
  · rcases List.mem_append.1 hX with hX | hX
    · exact h.dsize X hX
    · rw [List.mem_singleton] at hX; subst hX
      rw [hp.length_eq, List.length_append, h.esize x (List.mem_cons_self ..), h.esize y (List.mem_cons_of_mem _ (List.mem_cons_self ..)), hD]
  · refine List.Perm.trans ?_ h.perm
    simp only [List.flatten_append, List.flatten_cons, List.flatten_nil, List.append_nil, List.append_assoc]
    refine List.Perm.append_left _ ?_
    rw [← List.append_assoc x y]
    exact List.Perm.append_right _ hp
/-- the last block and the rest become the rest -/
theorem Blk.stepLast {rs : List Int} {D B : Nat} {ds : List (List Nat)} {x last L M : List Nat} (h : Blk rs D B ds [x] last L) (hp : M.Perm (x ++ last)) : Blk rs D B ds [] M L := by
  refine ⟨fun X hX => h.sorted X (List.mem_append_left _ (by simpa using hX)), ?_, h.dsize, fun X hX => absurd hX (by simp), ?_⟩
  · exact ord_merge (P := ds) (Q := []) h.ord hp
  · refine List.Perm.trans ?_ h.perm
    simp only [List.flatten_cons, List.flatten_nil, List.nil_append, List.append_nil]
    exact List.Perm.append_left _ hp
/-- a new round -/
theorem Blk.round {rs : List Int} {D B D' : Nat} {ds : List (List Nat)} {last L : List Nat} (h : Blk rs D B ds [] last L) : Blk rs D' D [] ds last L :=
  ⟨fun X hX => h.sorted X (by simpa using hX), by have := h.ord; simpa using this, fun X hX => absurd hX (by simp), h.dsize, by have := h.perm; simpa using this⟩
theorem Blk.free {rs : List Int} {D B B' : Nat} {ds : List (List Nat)} {last L : List Nat} (h : Blk rs D B ds [] last L) : Blk rs D B' ds [] last L :=
  ⟨h.sorted, h.ord, h.dsize, fun X hX => absurd hX (by simp), h.perm⟩
theorem Blk.ordAt {rs : List Int} {D B : Nat} {ds es : List (List Nat)} {x y last L : List Nat} (h : Blk rs D B ds (x :: y :: es) last L) : Lt2 x y := by
  have := (List.pairwise_append.1 h.ord).2.1
  exact (List.pairwise_cons.1 this).1 y (List.mem_cons_self ..)
theorem Blk.ordLast {rs : List Int} {D B : Nat} {ds : List (List Nat)} {x last L : List Nat} (h : Blk rs D B ds [x] last L) : Lt2 x last := by
  have := (List.pairwise_append.1 h.ord).2.1
  exact (List.pairwise_cons.1 this).1 last (List.mem_cons_self ..)
/-- the first round: a block is taken off the rest and sorted -/
theorem Blk.cut {rs : List Int} {D B : Nat} {ds : List (List Nat)} {last L M : List Nat} (h : Blk rs D B ds [] last L) (hl : D ≤ last.length) (hup : last.Pairwise (· < ·)) (hp : M.Perm (last.take D)) (hM : M.Pairwise (bef rs)) : Blk rs D B (ds ++ [M]) [] (last.drop D) L := by
  refine ⟨fun X hX => ?_, ?_, fun X hX => ?_, fun X hX => absurd hX (by simp), ?_⟩
  · rw [List.append_nil] at hX
    rcases List.mem_append.1 hX with hX | hX
    · exact h.sorted X (List.mem_append_left _ hX)
    · rw [List.mem_singleton] at hX; subst hX; exact hM
  · have h1 := h.ord
    simp only [List.nil_append] at h1
    rw [List.pairwise_append] at h1
    rw [List.append_assoc, List.pairwise_append]
    refine ⟨h1.1, ?_, fun a ha b hb x hx y hy => ?_⟩
    · simp only [List.singleton_append, List.nil_append]
      refine List.pairwise_cons.2 ⟨fun q hq a ha b hb => ?_, List.pairwise_singleton ..⟩
      rw [List.mem_singleton] at hq; subst hq
      have ha := (hp.mem_iff).1 ha
      have := (List.pairwise_append.1 ((List.take_append_drop D last).symm ▸ hup)).2.2
      exact this a ha b hb
    · have h3 := h1.2.2 a ha last (List.mem_singleton_self _) x hx
      simp only [List.singleton_append, List.nil_append, List.mem_cons, List.not_mem_nil, or_false] at hb
      rcases hb with rfl | rfl
      · exact h3 y (List.mem_of_mem_take ((hp.mem_iff).1 hy))
      · exact h3 y (List.mem_of_mem_drop hy)
  · rcases List.mem_append.1 hX with hX | hX
    · exact h.dsize X hX
    · rw [List.mem_singleton] at hX; subst hX
      rw [hp.length_eq, List.length_take]; omega
  · refine List.Perm.trans ?_ h.perm
    simp only [List.flatten_append, List.flatten_cons, List.flatten_nil, List.append_nil, List.append_assoc, List.nil_append]
    refine List.Perm.append_left _ ?_
    have := List.Perm.append_right (last.drop D) hp
    rwa [List.take_append_drop] at this
/-- the rest is sorted -/
theorem Blk.rest {rs : List Int} {D B : Nat} {ds : List (List Nat)} {last L M : List Nat} (h : Blk rs D B ds [] last L) (hp : M.Perm last) : Blk rs D B ds [] M L := by
  refine ⟨h.sorted, ?_, h.dsize, h.esize, ?_⟩
  · have h1 := h.ord
    simp only [List.nil_append] at h1 ⊢
    rw [List.pairwise_append] at h1 ⊢
    refine ⟨h1.1, List.pairwise_singleton .., fun a ha b hb x hx y hy => ?_⟩
    rw [List.mem_singleton] at hb; subst hb
    exact h1.2.2 a ha last (List.mem_singleton_self _) x hx y ((hp.mem_iff).1 hy)
  · refine List.Perm.trans ?_ h.perm
    simp only [List.flatten_nil, List.nil_append]
    exact List.Perm.append_left _ hp
end Go.Proofs.Ytobifmndpkjlmaa

