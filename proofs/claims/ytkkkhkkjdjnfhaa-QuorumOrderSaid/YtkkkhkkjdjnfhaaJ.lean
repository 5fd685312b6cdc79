/- What must be in any case: the statements' own small case answers true. -/
import Derived.Test.YtkkkhkkjdjnfhaaI
namespace Go.Proofs.Ytkkkhkkjdjnfhaa
open Go.RowKit Go.BW

def m3 : List Mem := [⟨0, 200, 0⟩, ⟨1, 300, 0⟩, ⟨2, 160, 0⟩]
def lb3 (g m : Int) (A : Option Addr) (n c : Nat) : Lb := ⟨9, g, m, 16, A, n, c, m3⟩
theorem right3 (m : Int) (A : Option Addr) (c : Nat) (hm : m = 0 ∨ m = 1) : rightB (lb3 4 m A 3 c) = true := by
  rcases hm with rfl | rfl <;> (unfold rightB lb3 m3 inB; simp [goodFrom, mayM, inB])
theorem lost3 (m : Int) (A : Option Addr) (c : Nat) (hm : m = 0 ∨ m = 1) : lostE (lb3 4 m A 3 c) 2 = 0 := by
  unfold lostE
  rw [if_neg (by rw [right3 m A c hm]; decide)]
  rcases hm with rfl | rfl <;>
  · simp only [lb3, m3, List.find?]
    simp [rightB, lostL, lostM, lb3, m3, inB, goodFrom, mayM, failed, List.findIdx?, List.findIdx?.go]
theorem choose_two (A A' : Option Addr) (c c' : Nat) : [lb3 4 0 A 3 c, lb3 4 1 A' 3 c'].filter rightB = [lb3 4 0 A 3 c, lb3 4 1 A' 3 c'] ∧ maxOf [lb3 4 0 A 3 c, lb3 4 1 A' 3 c'] = lb3 4 0 A 3 c ∧
    chooseE [lb3 4 0 A 3 c, lb3 4 1 A' 3 c'] = 0 ∧ missL [lb3 4 0 A 3 c, lb3 4 1 A' 3 c'] (lb3 4 0 A 3 c) = [2] := by
  have h1 : [lb3 4 0 A 3 c, lb3 4 1 A' 3 c'].filter rightB = [lb3 4 0 A 3 c, lb3 4 1 A' 3 c'] := by simp [right3]
  have h2 : maxOf [lb3 4 0 A 3 c, lb3 4 1 A' 3 c'] = lb3 4 0 A 3 c := by simp [maxOf, newer, lb3]
  have h4 : missL [lb3 4 0 A 3 c, lb3 4 1 A' 3 c'] (lb3 4 0 A 3 c) = [2] := by simp [missL, missB, ofM, lb3, m3]
  refine ⟨h1, h2, ?_, h4⟩
  unfold chooseE
  simp only [h1, h2, h4]
  simp [clash, sameB, eqM, lb3]
theorem choose_one (A : Option Addr) (c : Nat) : chooseE [lb3 4 0 A 3 c] = 5 := by
  have h1 : [lb3 4 0 A 3 c].filter rightB = [lb3 4 0 A 3 c] := by simp [right3]
  have h4 : missL [lb3 4 0 A 3 c] (lb3 4 0 A 3 c) = [1, 2] := by simp [missL, missB, ofM, lb3, m3]
  unfold chooseE
  simp only [h1]
  simp [clash, sameB, eqM, maxOf, h4]
end Go.Proofs.Ytkkkhkkjdjnfhaa

