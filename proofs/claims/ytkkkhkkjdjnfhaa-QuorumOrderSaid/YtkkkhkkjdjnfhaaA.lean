/- Members: the data's words, label.in, label.may, for all numbers. -/
import Derived.Test.YtkkkhkkjdjnfhaaProg
import Derived.Test.YtkkkhkkjdjnfhaaFlat
import Derived.Test.YtkkkhkkjdjnfhaaApp
import Derived.Test.YtkkkhkkjdjnfhaaArr
import Derived.Test.YtkkkhkkjdjnfhaaCut
namespace Go.Proofs.Ytkkkhkkjdjnfhaa
open Go.RowKit Go.BW

structure Mem where
  id : Int
  sec : Int
  st : Int
  deriving DecidableEq
def mc (m : Mem) : List Value := [.int .i64 m.id, .int .i64 m.sec, .int .i64 m.st]
def mv (m : Mem) : Value := .agg #[.int .i64 m.id, .int .i64 m.sec, .int .i64 m.st]
theorem mc_len (m : Mem) : (mc m).length = 3 := rfl
theorem mc_one (ms : List Mem) : ∀ u ∈ fl mc ms, u.oneCell' = true := by
  intro u hu
  unfold fl at hu
  rw [List.mem_flatten] at hu
  obtain ⟨l, hl, hu⟩ := hu
  obtain ⟨m, _, rfl⟩ := List.mem_map.1 hl
  simp [mc] at hu
  rcases hu with rfl | rfl | rfl <;> rfl
theorem T22 : El Try.prog 22 28 (mv ⟨0, 0, 0⟩) 3 24 := El.mk' Try.underlying22 (by kernel_rfl) rfl (by decide)
def inB (n a b : Int) : Bool := decide (a ≤ n ∧ n ≤ b)
theorem in_any (n a b : Int) (w : World) : Calls Try.prog 15 #[.int .i64 n, .int .i64 a, .int .i64 b] w fun e w' => e = .returned (.bool (inB n a b)) ∧ w = w' := by
  by_cases h1 : a ≤ n
  · by_cases h2 : n ≤ b
    · have H := Lib.hid (show inB n a b = true by unfold inB; simp [h1, h2])
      go_enter Try.func15, Try.ntmps15
      go_wp2
      go_ret
      exact ⟨by rw [H.out]; rfl, rfl⟩
    · have H := Lib.hid (show inB n a b = false by unfold inB; simp [h2])
      go_enter Try.func15, Try.ntmps15
      go_wp2
      go_ret
      exact ⟨by rw [H.out]; rfl, rfl⟩
  · have H := Lib.hid (show inB n a b = false by unfold inB; simp [h1])
    go_enter Try.func15, Try.ntmps15
    go_wp2
    go_ret
    exact ⟨by rw [H.out]; rfl, rfl⟩
/-- may a member be? -/
def mayM (m : Mem) : Bool := inB m.id 0 31 && inB m.sec 160 4096 && inB m.st 0 2
theorem may_any (m : Mem) (w : World) : Calls Try.prog 16 #[mv m] w (Ret (.bool (mayM m)) w) := by
  have h1 := Lib.hid (fun w' => in_any m.id 0 31 w')
  have h2 := Lib.hid (fun w' => in_any m.sec 160 4096 w')
  have h3 := Lib.hid (fun w' => in_any m.st 0 2 w')
  have hm : mayM m = (inB m.id 0 31 && inB m.sec 160 4096 && inB m.st 0 2) := rfl
  unfold mv
  obtain ⟨b1, e1⟩ : ∃ b, inB m.id 0 31 = b := ⟨_, rfl⟩
  obtain ⟨b2, e2⟩ : ∃ b, inB m.sec 160 4096 = b := ⟨_, rfl⟩
  obtain ⟨b3, e3⟩ : ∃ b, inB m.st 0 2 = b := ⟨_, rfl⟩
  rw [e1, e2, e3] at hm
  rw [e1] at h1
  rw [e2] at h2
  rw [e3] at h3
  have H := Lib.hid hm
  clear e1 e2 e3 hm
  rcases b1 with _ | _
  · go_enter Try.func16, Try.ntmps16
    go_wp2_with (first | ((with_reducible refine (h1.out _).mono ?_); rintro e w' ⟨rfl, rfl⟩))
    go_ret
    exact ⟨by rw [H.out]; rfl, World.grownBy_alloc w _ none⟩
  rcases b2 with _ | _
  · go_enter Try.func16, Try.ntmps16
    go_wp2_with (first | ((with_reducible refine (h1.out _).mono ?_); rintro e w' ⟨rfl, rfl⟩) | ((with_reducible refine (h2.out _).mono ?_); rintro e w' ⟨rfl, rfl⟩))
    go_ret
    exact ⟨by rw [H.out]; rfl, World.grownBy_alloc w _ none⟩
  rcases b3 with _ | _
  all_goals
    go_enter Try.func16, Try.ntmps16
    go_wp2_with (first | ((with_reducible refine (h1.out _).mono ?_); rintro e w' ⟨rfl, rfl⟩) | ((with_reducible refine (h2.out _).mono ?_); rintro e w' ⟨rfl, rfl⟩) | ((with_reducible refine (h3.out _).mono ?_); rintro e w' ⟨rfl, rfl⟩))
    go_ret
    exact ⟨by rw [H.out]; rfl, World.grownBy_alloc w _ none⟩
theorem cell_alloc {w : World} {p : Addr} {v : Value} {o : Obj} (h : w.cell? p = some v) : (w.alloc o).cell? p = some v :=
  (World.cell?_of_block ((World.grownBy_alloc w o none).block p.block (World.block_lt_of_cell? w p h) (by simp))).trans h
/-- Right's closure -/
theorem own_any (m : Mem) (b : Nat) (x : Int) (w : World) (h : w.cell? ⟨b, 2, none⟩ = some (.int .i64 x)) : Calls Try.prog 18 #[mv m, .pointer (some ⟨b, 0, none⟩)] w (Ret (.bool (m.id == x)) w) := by
  unfold mv
  have h2 := fun o => cell_alloc (o := o) h
  go_enter Try.func18, Try.ntmps18
  go_wp2
  go_ret
  exact ⟨rfl, World.grownBy_alloc w _ none⟩
/-- the first that is so, or -1 -/
def idxZ {α : Type} (p : α → Bool) (l : List α) : Int := match l.findIdx? p with | some i => i | none => -1
theorem idxZ_at {α : Type} {p : α → Bool} {l : List α} {k : Nat} {x : α} (hno : (l.take k).any p = false) (hx : l[k]? = some x) (hp : p x = true) : idxZ p l = k := by
  have h : l.findIdx? p = some k := by
    obtain ⟨hk, rfl⟩ := List.getElem?_eq_some_iff.1 hx
    rw [List.findIdx?_eq_some_iff_getElem]
    refine ⟨hk, hp, fun j hj => ?_⟩
    have := List.any_eq_false.1 hno l[j] (by rw [List.mem_take_iff_getElem]; exact ⟨j, by omega, rfl⟩)
    simpa using this
  unfold idxZ; rw [h]
theorem idxZ_no {α : Type} {p : α → Bool} {l : List α} (h : l.any p = false) : idxZ p l = -1 := by
  have : l.findIdx? p = none := by rw [List.findIdx?_eq_none_iff]; intro x hx; simpa using List.any_eq_false.1 h x hx
  unfold idxZ; rw [this]
theorem idxZ_nn {α : Type} (p : α → Bool) (l : List α) : decide (0 ≤ idxZ p l) = l.any p := by
  rcases h : l.any p with _ | _
  · rw [idxZ_no h]; decide
  · unfold idxZ
    rcases h2 : l.findIdx? p with _ | i
    · exfalso
      rw [List.findIdx?_eq_none_iff] at h2
      obtain ⟨x, hx, hp⟩ := List.any_eq_true.1 h
      have := h2 x hx; rw [hp] at this; cases this
    · simp
theorem any_snoc {α : Type} {p : α → Bool} {l : List α} {k : Nat} {x : α} (hno : (l.take k).any p = false) (hx : l[k]? = some x) : (l.take (k + 1)).any p = p x := by
  obtain ⟨hk, rfl⟩ := List.getElem?_eq_some_iff.1 hx
  rw [List.take_succ_eq_append_getElem hk, List.any_append, hno]; simp
def IdxPost (v : Int) (w : World) (e : Ending) (w' : World) : Prop := e = .returned (.int .i64 v) ∧ Nw w w'
end Go.Proofs.Ytkkkhkkjdjnfhaa

