/- The library's symMerge by byRoom's comparison: two rows in their order become one. -/
import Derived.Test.YtobifmndpkjlmaaSR
namespace Go.Proofs.Ytobifmndpkjlmaa
open Go.RowKit Go.BW

def MergePost (g base n c : Nat) (rs : List Int) (U X Y Z : List Nat) (w : World) (e : Ending) (w' : World) : Prop :=
  e = .returned (.tuple #[]) ∧ ∃ M : List Nat, M.Perm (X ++ Y) ∧ M.Pairwise (bef rs) ∧ Own w' base 3 1 (some ⟨g, 0, none⟩) n c ((U ++ (M ++ Z)).map nv) ∧ w.grownBy w' (some g)
theorem Cmp.drewN {w : World} {g y N cR : Nat} {AR : Option Addr} {rs : List Int} (h : Cmp w g y AR N cR rs) (k : Nat) : Cmp (w.drewN k) g y AR N cR rs := ⟨h.cell, h.ne, h.rd.drewN k, h.ns, h.len⟩
/-- a cell of an own row of disks -/
theorem dcell {w : World} {base g n c p x : Nat} {L : List Nat} (h : Own w base 3 1 (some ⟨g, 0, none⟩) n c (L.map nv)) (hx : L[p]? = some x) : w.cell? ⟨g, p, none⟩ = some (.int .i64 (x : Int)) ∧ w.frozen? ⟨g, p, none⟩ = false ∧ p < n := by
  have hp : p < n := by have h1 := (List.getElem?_eq_some_iff.1 hx).1; have h2 := h.len; simp at h2; omega
  obtain ⟨u, h1, h2, h3⟩ := h.cellAt hp
  rw [List.getElem?_map, hx] at h1
  injection h1 with h1; subst h1
  exact ⟨h2, h3, hp⟩
theorem cmp_call {w : World} {g y N cR : Nat} {AR : Option Addr} {rs : List Int} (hc : Cmp w g y AR N cR rs) {a b : Nat} (ha : a < N) (hb : b < N) :
    ∀ m, Calls Try.prog 40 #[.int .i64 a, .int .i64 b, .pointer (some ⟨y, 0, none⟩)] (w.drewN m) fun e w' => e = .returned (.int .i64 (cmpf (rs.getD b 0) (rs.getD a 0))) ∧ ∃ k, w' = (w.drewN m).drewN k := fun m =>
  byroom_any (w := w.drewN m) (hc.rd.drewN m) hc.ns hc.cell a b ha hb
/-- the merging of one into a row -/
theorem put_left {rs : List Int} {Y1 Y2 : List Nat} {x : Nat} (hY : (Y1 ++ Y2).Pairwise (bef rs)) (h1 : ∀ y ∈ Y1, rs.getD x 0 < rs.getD y 0) (h2 : ∀ y ∈ Y2, ¬ rs.getD x 0 < rs.getD y 0) (hx : ∀ y ∈ Y1 ++ Y2, x < y) : (Y1 ++ x :: Y2).Pairwise (bef rs) := by
  rw [List.pairwise_append] at hY ⊢
  refine ⟨hY.1, List.pairwise_cons.2 ⟨fun y hy => ?_, hY.2.1⟩, fun a ha b hb => ?_⟩
  · have := h2 y hy
    have := hx y (List.mem_append_right _ hy)
    unfold bef; omega
  · rcases List.mem_cons.1 hb with rfl | hb
    · exact .inl (h1 a ha)
    · exact hY.2.2 a ha b hb
theorem put_right {rs : List Int} {X1 X2 : List Nat} {y : Nat} (hX : (X1 ++ X2).Pairwise (bef rs)) (h1 : ∀ x ∈ X1, ¬ rs.getD x 0 < rs.getD y 0) (h2 : ∀ x ∈ X2, rs.getD x 0 < rs.getD y 0) (hy : ∀ x ∈ X1 ++ X2, x < y) : (X1 ++ y :: X2).Pairwise (bef rs) := by
  rw [List.pairwise_append] at hX ⊢
  refine ⟨hX.1, List.pairwise_cons.2 ⟨fun x hx => .inl (h2 x hx), hX.2.1⟩, fun a ha b hb => ?_⟩
  rcases List.mem_cons.1 hb with rfl | hb
  · have := h1 a ha
    have := hy a (List.mem_append_left _ ha)
    unfold bef; omega
  · exact hX.2.2 a ha b hb
/-- rooms fall along a row in its order -/
theorem fall_at {rs : List Int} {Y : List Nat} (h : Y.Pairwise (bef rs)) {p q : Nat} (hp : p < Y.length) (hq : q < Y.length) (hpq : p ≤ q) : rs.getD Y[q] 0 ≤ rs.getD Y[p] 0 := by
  rcases Nat.lt_or_ge p q with h1 | h1
  · have := List.pairwise_iff_getElem.1 h p q hp hq h1
    unfold bef at this; omega
  · have : p = q := by omega
    subst this; omega
/-- two halves, each ahead of the other, merged -/
theorem join_halves {rs : List Int} {A1 A2 B1 B2 M1 M2 : List Nat} (hA : (A1 ++ A2).Pairwise (bef rs)) (hB : (B1 ++ B2).Pairwise (bef rs)) (h12 : ∀ a ∈ A1, ∀ b ∈ B2, bef rs a b) (h21 : ∀ b ∈ B1, ∀ a ∈ A2, bef rs b a)
    (p1 : M1.Perm (A1 ++ B1)) (p2 : M2.Perm (A2 ++ B2)) (s1 : M1.Pairwise (bef rs)) (s2 : M2.Pairwise (bef rs)) : (M1 ++ M2).Pairwise (bef rs) ∧ (M1 ++ M2).Perm (A1 ++ A2 ++ (B1 ++ B2)) := by
  rw [List.pairwise_append] at hA hB ⊢
  refine ⟨⟨s1, s2, fun a ha b hb => ?_⟩, ?_⟩
  · rcases List.mem_append.1 ((p1.mem_iff).1 ha) with ha | ha <;> rcases List.mem_append.1 ((p2.mem_iff).1 hb) with hb | hb
    · exact hA.2.2 a ha b hb
    · exact h12 a ha b hb
    · exact h21 a ha b hb
    · exact hB.2.2 a ha b hb
  · refine (p1.append p2).trans ?_
    rw [List.append_assoc, List.append_assoc]
    refine List.Perm.append_left A1 ?_
    rw [← List.append_assoc, ← List.append_assoc]
    exact List.Perm.append_right B2 List.perm_append_comm
end Go.Proofs.Ytobifmndpkjlmaa

