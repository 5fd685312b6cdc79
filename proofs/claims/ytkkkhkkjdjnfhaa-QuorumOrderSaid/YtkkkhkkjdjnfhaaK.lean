/- The statements' own small case answers true. -/
import Derived.Test.YtkkkhkkjdjnfhaaJ
import Derived.Deep.DeepCutAuto
namespace Go.Proofs.Ytkkkhkkjdjnfhaa
open Go.RowKit Go.BW

theorem three_lb (m : Int) (w : World) : Calls Try.prog 14 #[.int .i64 4, .int .i64 m] w
    (fun e w' => ∃ A c, e = .returned (.agg #[.int .i64 9, .int .i64 4, .int .i64 m, .int .i64 16, .slice A 3 c]) ∧ Own w' w.heap.size 28 3 A 3 c (fl mc m3) ∧ Nw w w') := by
  refine (three_any 4 m w).mono ?_
  rintro e w' ⟨A, n, c, rfl, o, k⟩
  have hn : 3 = n := o.lenL mc_len (by decide)
  subst hn
  exact ⟨A, c, rfl, o, k⟩
theorem ok3 {w : World} {base c B : Nat} {A : Option Addr} (g m : Int) (h : Own w base 28 3 A 3 c (fl mc m3)) (hB : w.heap.size ≤ B) : LOk w B (lb3 g m A 3 c) := ⟨h.rd.more hB, h.cap.1, h.cap.2⟩
theorem row_new {w : World} {x : List Lb} {cs : Array Value} {n : Nat} (he : cs.toList = fl lc x) (hn : cs.size = n * 5) (hm : n ≤ maxLen) : Rd (w.alloc (.cells cs 24)) (w.alloc (.cells cs 24)).heap.size 5 (some ⟨w.heap.size, 0, none⟩) n (fl lc x) := by
  rw [← he]
  exact ((Obj1.new w 24 cs).ownN (base := 0) hn (Nat.zero_le _) hm).rd
theorem two_any {w : World} {B1 B2 c1 c2 : Nat} {A1 A2 : Option Addr} (o1 : Own w B1 28 3 A1 3 c1 (fl mc m3)) (o2 : Own w B2 28 3 A2 3 c2 (fl mc m3)) : Calls Try.prog 12 #[.slice (some ⟨w.heap.size, 0, none⟩) 2 2]
    (w.alloc (.cells #[.int .i64 9, .int .i64 4, .int .i64 0, .int .i64 16, .slice A1 3 c1, .int .i64 9, .int .i64 4, .int .i64 1, .int .i64 16, .slice A2 3 c2] 24))
    (fun e w' => Nw w w' ∧ ∃ A c g d, e = .returned (.tuple #[.agg #[.int .i64 9, .int .i64 4, .int .i64 0, .int .i64 16, .slice A 3 c], .slice (some ⟨g, 0, none⟩) 1 d, .int .i64 0]) ∧ Own w' w.heap.size 3 1 (some ⟨g, 0, none⟩) 1 d [.int .i64 2]) := by
  obtain ⟨h1, h2, h3, h4⟩ := choose_two A1 A2 c1 c2
  have hG := World.grownBy_alloc w (.cells #[.int .i64 9, .int .i64 4, .int .i64 0, .int .i64 16, .slice A1 3 c1, .int .i64 9, .int .i64 4, .int .i64 1, .int .i64 16, .slice A2 3 c2] 24) none
  refine (choose_any (row_new (x := [lb3 4 0 A1 3 c1, lb3 4 1 A2 3 c2]) rfl rfl (by unfold maxLen; decide)) ?_ (Nat.le_refl _) (by decide) ?_).mono ?_
  · intro x hx
    simp only [List.mem_cons, List.not_mem_nil, or_false] at hx
    rcases hx with rfl | rfl
    · exact ok3 4 0 (o1.nw hG) (Nat.le_refl _)
    · exact ok3 4 1 (o2.nw hG) (Nat.le_refl _)
  · intro x hx
    simp only [List.mem_cons, List.not_mem_nil, or_false] at hx
    rcases hx with rfl | rfl <;> (simp only [lb3]; omega)
  · rintro e w' ⟨k, hp⟩
    rw [h1, h2, h3, h4] at hp
    rcases hp with ⟨h, _⟩ | ⟨_, A, n, c, M, k', d, rfl, p1, p2⟩
    · exact absurd rfl h
    have hn : 3 = n := p1.lenL mc_len (by decide)
    subst hn
    have hk : 1 = k' := by have := p2.len; rw [Nat.mul_one] at this; exact this
    subst hk
    obtain ⟨g, rfl, _⟩ := p2.some_ (by decide)
    exact ⟨gb_trans hG k, A, c, g, d, rfl, p2.more hG.size⟩
theorem one_any {w : World} {B1 c1 : Nat} {A1 : Option Addr} (o1 : Own w B1 28 3 A1 3 c1 (fl mc m3)) : Calls Try.prog 12 #[.slice (some ⟨w.heap.size, 0, none⟩) 1 1]
    (w.alloc (.cells #[.int .i64 9, .int .i64 4, .int .i64 0, .int .i64 16, .slice A1 3 c1] 24))
    (fun e w' => e = .returned (.tuple #[.agg #[.int .i64 0, .int .i64 0, .int .i64 0, .int .i64 0, .slice none 0 0], .slice none 0 0, .int .i64 5]) ∧ Nw w w') := by
  have h3 := choose_one A1 c1
  have hG := World.grownBy_alloc w (.cells #[.int .i64 9, .int .i64 4, .int .i64 0, .int .i64 16, .slice A1 3 c1] 24) none
  refine (choose_any (row_new (x := [lb3 4 0 A1 3 c1]) rfl rfl (by unfold maxLen; decide)) ?_ (Nat.le_refl _) (by decide) ?_).mono ?_
  · intro x hx
    simp only [List.mem_cons, List.not_mem_nil, or_false] at hx
    subst hx
    exact ok3 4 0 (o1.nw hG) (Nat.le_refl _)
  · intro x hx
    simp only [List.mem_cons, List.not_mem_nil, or_false] at hx
    subst hx; simp only [lb3]; omega
  · rintro e w' ⟨k, hp⟩
    rw [h3] at hp
    rcases hp with ⟨_, rfl⟩ | ⟨h, _⟩
    · exact ⟨rfl, gb_trans hG k⟩
    · exact absurd h (by decide)
theorem lost_m3 : lostM m3 2 = [⟨0, 200, 0⟩, ⟨1, 300, 0⟩, ⟨2, 160, 1⟩] := by simp [lostM, m3, failed, List.findIdx?, List.findIdx?.go]
theorem lost_two {w : World} {B1 c1 : Nat} {A1 : Option Addr} (o1 : Own w B1 28 3 A1 3 c1 (fl mc m3)) : Calls Try.prog 11 #[.agg #[.int .i64 9, .int .i64 4, .int .i64 0, .int .i64 16, .slice A1 3 c1], .int .i64 2] w
    (fun e w' => Nw w w' ∧ ∃ g c, e = .returned (.tuple #[.agg #[.int .i64 9, .int .i64 5, .int .i64 0, .int .i64 16, .slice (some ⟨g, 0, none⟩) 3 c], .int .i64 0]) ∧ Own w' w.heap.size 28 3 (some ⟨g, 0, none⟩) 3 c [.int .i64 0, .int .i64 200, .int .i64 0, .int .i64 1, .int .i64 300, .int .i64 0, .int .i64 2, .int .i64 160, .int .i64 1]) := by
  refine (lost_any (ok3 4 0 o1 (Nat.le_refl _)) (Nat.le_refl _) (by simp only [lb3]; omega)).mono ?_
  rintro e w' ⟨k, hp⟩
  have hm : (lb3 4 0 A1 3 c1).ms = m3 := rfl
  rw [lost3 0 A1 c1 (.inl rfl), hm, lost_m3] at hp
  rcases hp with ⟨h, _⟩ | ⟨_, A, n, c, rfl, p⟩
  · exact absurd rfl h
  have hn : 3 = n := p.lenL mc_len (by decide)
  subst hn
  obtain ⟨g, rfl, _⟩ := p.some_ (by decide)
  exact ⟨k, g, c, rfl, p⟩
end Go.Proofs.Ytkkkhkkjdjnfhaa

