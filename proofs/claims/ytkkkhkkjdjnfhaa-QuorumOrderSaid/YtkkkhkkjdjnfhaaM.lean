/- The statements' first steps: members made live one behind the other; members picked by their place. -/
import Derived.Test.YtkkkhkkjdjnfhaaL
namespace Go.Proofs.Ytkkkhkkjdjnfhaa
open Go.RowKit Go.BW

def live (m : Mem) : Mem := ⟨m.id, m.sec, 0⟩
def liveTo (ms : List Mem) (j : Nat) : List Mem := (ms.take j).map live ++ ms.drop j
theorem liveTo_zero (ms : List Mem) : liveTo ms 0 = ms := by simp [liveTo]
theorem liveTo_all {ms : List Mem} {j : Nat} (h : ms.length ≤ j) : liveTo ms j = ms.map live := by simp [liveTo, List.take_of_length_le h, List.drop_of_length_le h]
theorem liveTo_len (ms : List Mem) (j : Nat) : (liveTo ms j).length = ms.length := by simp [liveTo]; omega
theorem liveTo_get {ms : List Mem} {j : Nat} {q : Mem} (h : ms[j]? = some q) : (liveTo ms j)[j]? = some q := by
  obtain ⟨hj, hq⟩ := List.getElem?_eq_some_iff.1 h
  unfold liveTo
  rw [List.getElem?_append_right (by simp; omega)]
  simp [Nat.min_eq_left (Nat.le_of_lt hj), h]
theorem liveTo_set {ms : List Mem} {j : Nat} {q : Mem} (h : ms[j]? = some q) : (liveTo ms j).set j (live q) = liveTo ms (j + 1) := by
  obtain ⟨hj, rfl⟩ := List.getElem?_eq_some_iff.1 h
  unfold liveTo
  rw [List.set_append_right _ _ (by simp; omega), List.take_succ_eq_append_getElem hj, List.map_append, List.append_assoc]
  congr 1
  have e : j - ((ms.take j).map live).length = 0 := by simp; omega
  rw [e, List.drop_eq_getElem_cons hj]
  rfl
theorem live_step {w : World} {base r k c j : Nat} {ms : List Mem} (h : Own w base 28 3 (some ⟨r, 0, none⟩) k c (fl mc (liveTo ms j))) (hj : j < k) :
    (∃ u, w.cell? ⟨r, j * 3 + 2, none⟩ = some u ∧ w.frozen? ⟨r, j * 3 + 2, none⟩ = false) ∧
    Own (w.setCell ⟨r, j * 3 + 2, none⟩ (.int .i64 0)) base 28 3 (some ⟨r, 0, none⟩) k c (fl mc (liveTo ms (j + 1))) ∧ w.grownBy (w.setCell ⟨r, j * 3 + 2, none⟩ (.int .i64 0)) (some r) := by
  obtain ⟨u, _, h1, h2⟩ := h.cellN (k := j * 3 + 2) (by omega)
  have hl : ms.length = k := by rw [← liveTo_len ms j]; exact h.lenL mc_len (by decide)
  have hq : ms[j]? = some ms[j] := List.getElem?_eq_getElem (by omega)
  obtain ⟨s, g⟩ := h.set (j * 3 + 2) (.int .i64 0)
  rw [fl_set1 mc_len (x := ms[j]) (y := live ms[j]) (by decide) rfl (liveTo ms j) j (liveTo_get hq), liveTo_set hq] at s
  exact ⟨⟨u, h1, h2⟩, s, g⟩
/-- those members before place j that a test of places picks -/
def picks (P : Nat → Bool) (ms : List Mem) (j : Nat) : List Mem := ((ms.take j).zipIdx.filter (fun p => P p.2)).map (·.1)
theorem picks_zero (P : Nat → Bool) (ms : List Mem) : picks P ms 0 = [] := by simp [picks]
theorem picks_step {P : Nat → Bool} {ms : List Mem} {j : Nat} {x : Mem} (h : ms[j]? = some x) : picks P ms (j + 1) = picks P ms j ++ (if P j then [x] else []) := by
  obtain ⟨hj, rfl⟩ := List.getElem?_eq_some_iff.1 h
  unfold picks
  rw [List.take_succ_eq_append_getElem hj, List.zipIdx_append, List.filter_append, List.map_append]
  congr 1
  simp [List.zipIdx_cons, Nat.min_eq_left (Nat.le_of_lt hj), List.filter_cons]
  split <;> simp
theorem picks_len (P : Nat → Bool) (ms : List Mem) (j : Nat) : (picks P ms j).length ≤ j := by
  unfold picks
  rw [List.length_map]
  refine Nat.le_trans (List.length_filter_le ..) ?_
  rw [List.length_zipIdx, List.length_take]; omega
/-- does a mask name a place? -/
def bt (mask : Int) (t : Nat) : Bool := bits BinOp.and IntKind.i64 (mask / 2 ^ t) 1 == 1
def nbt (mask : Int) (t : Nat) : Bool := !bt mask t
/-- one label with another member's number -/
def withM (x : Lb) (q : Mem) : Lb := ⟨x.a, x.g, q.id, x.b, x.A, x.n, x.c, x.ms⟩
/-- what another row's growth leaves as it is -/
theorem Obj1.kept' {w w' : World} {g : Nat} {t : TypeId} {cs : Array Value} {row : Option Nat} (h : Obj1 w g t cs) (k : w.grownBy w' row) (hn : ∀ r, row = some r → g ≠ r) : Obj1 w' g t cs := by
  refine h.chg (Chg.of_gb (F := row.toList) k (by intro q hq; simp [hq])) ?_
  rcases row with _ | r
  · simp
  · simpa using hn r rfl
theorem own_apart {w : World} {b b' s s' n n' c c' : Nat} {t t' : TypeId} {A A' : Option Addr} {xs xs' : List Value} (h : Own w b t s A n c xs) (h' : Own w b' t' s' A' n' c' xs') (ht : t' ≠ t) :
    ∀ r, (Value.slice A n c).ownBlock = some r → (Value.slice A' n' c').ownBlock ≠ some r := by
  intro r hr he
  obtain ⟨_, q1⟩ := h.rowObj _ hr
  obtain ⟨_, q2⟩ := h'.rowObj _ he
  exact q2.ne q1 ht rfl
theorem own_obj {w : World} {b s n c g : Nat} {t t' : TypeId} {A : Option Addr} {xs : List Value} {cs : Array Value} (h : Own w b t s A n c xs) (h' : Obj1 w g t' cs) (ht : t' ≠ t) :
    ∀ r, (Value.slice A n c).ownBlock = some r → g ≠ r := by
  intro r hr
  obtain ⟨_, q1⟩ := h.rowObj _ hr
  exact h'.ne q1 ht
theorem nw_alloc {w w' : World} {o : Obj} (h : Nw w w') : Nw w (w'.alloc o) := gb_trans h (World.grownBy_alloc w' o none)
/-- one new variable of which one cell is set at once -/
theorem new_set {w : World} (t : TypeId) (cs : Array Value) (i : Nat) (u : Value) : ∃ W, (w.alloc (.cells cs t)).setCell ⟨w.heap.size, i, none⟩ u = W ∧ Obj1 W w.heap.size t (cs.set! i u) ∧ Nw w W := by
  refine ⟨_, rfl, (Obj1.new w t cs).set i u, ?_⟩
  have g1 : (w.alloc (.cells cs t)).grownBy ((w.alloc (.cells cs t)).setCell ⟨w.heap.size, i, none⟩ u) (some w.heap.size) := gb_set (gb_nw (Nw.refl _)) (.inl rfl) _
  exact nw_of_gb (World.grownBy_alloc w (.cells cs t) none) g1 (fun r hr => by injection hr with hr; omega)
end Go.Proofs.Ytkkkhkkjdjnfhaa

