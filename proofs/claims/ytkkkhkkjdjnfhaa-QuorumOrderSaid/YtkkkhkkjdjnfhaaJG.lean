/- shown answers true. -/
import Derived.Test.YtkkkhkkjdjnfhaaJF
set_option linter.unusedVariables false
set_option linter.unusedSimpArgs false
/- shown answers true. -/
namespace Go.Proofs.Ytkkkhkkjdjnfhaa
open Go.RowKit Go.BW

set_option maxRecDepth 100000 in
set_option maxHeartbeats 8000000 in
theorem shown_any (w : World) : Calls Try.prog 8 #[] w (Ret (.bool true) w) := by
  go_enter Try.func8, Try.ntmps8
  go_upto_region 2 with (first
    | ((with_reducible refine (two_any (o1.nw g2) o2).mono ?_); rintro e w3 ⟨g3, A3, c3, r3, d3, rfl, o3⟩; have X3 := Lib.hid (Obj1.new w3 24 #[.int .i64 9, .int .i64 4, .int .i64 0, .int .i64 16, .slice A3 3 c3]); have N3 := Lib.hid (gb_trans (gb_trans (gb_trans g1 g2) g3) (World.grownBy_alloc w3 (.cells #[.int .i64 9, .int .i64 4, .int .i64 0, .int .i64 16, .slice A3 3 c3] 24) none)); have O3 := Lib.hid (o3.nw (World.grownBy_alloc w3 (.cells #[.int .i64 9, .int .i64 4, .int .i64 0, .int .i64 16, .slice A3 3 c3] 24) none)))
    | ((with_reducible refine (three_lb 1 _).mono ?_); rintro e w2 ⟨A2, c2, rfl, o2, g2⟩)
    | ((with_reducible refine (three_lb 0 _).mono ?_); rintro e w1 ⟨A1, c1, rfl, o1, g1⟩))
  obtain ⟨W, hW⟩ : ∃ W, w3.alloc (.cells #[.int .i64 9, .int .i64 4, .int .i64 0, .int .i64 16, .slice A3 3 c3] 24) = W := ⟨_, rfl⟩
  obtain ⟨x3, hx3⟩ : ∃ x, w3.heap.size = x := ⟨_, rfl⟩
  rw [hW] at X3 N3 O3
  clear o1 o2 o3 g1 g2 g3
  rw [hx3] at X3 ⊢
  rw [hW]
  clear hW hx3
  go_upto_region 3 with (first
    | ((with_reducible refine (one_any o4).mono ?_); rintro e w5 ⟨rfl, g5⟩; have X5 := Lib.hid (Obj1.new w5 24 #[.int .i64 0, .int .i64 0, .int .i64 0, .int .i64 0, .slice none 0 0]); have N5 := Lib.hid (gb_trans (gb_trans g4 g5) (World.grownBy_alloc w5 (.cells #[.int .i64 0, .int .i64 0, .int .i64 0, .int .i64 0, .slice none 0 0] 24) none)))
    | ((with_reducible refine (three_lb 0 _).mono ?_); rintro e w4 ⟨A4, c4, rfl, o4, g4⟩))
  obtain ⟨V, hV⟩ : ∃ V, w5.alloc (.cells #[.int .i64 0, .int .i64 0, .int .i64 0, .int .i64 0, .slice none 0 0] 24) = V := ⟨_, rfl⟩
  obtain ⟨x5, hx5⟩ : ∃ x, w5.heap.size = x := ⟨_, rfl⟩
  rw [hV] at X5 N5
  rw [hx5] at X5 ⊢
  rw [hV]
  have X35 := Lib.hid (X3.out.nw N5.out); have O35 := Lib.hid (O3.out.nw N5.out); have N35 := Lib.hid (gb_trans N3.out N5.out)
  clear hV hx5 o4 g4 g5 X3 O3 N3 N5
  go_upto_region 4 with (first
    | ((with_reducible refine (lost_two o6).mono ?_); rintro e w7 ⟨g7, r7, c7, rfl, o7⟩; have X7 := Lib.hid (Obj1.new w7 24 #[.int .i64 9, .int .i64 5, .int .i64 0, .int .i64 16, .slice (some ⟨r7, 0, none⟩) 3 c7]); have N7 := Lib.hid (gb_trans (gb_trans g6 g7) (World.grownBy_alloc w7 (.cells #[.int .i64 9, .int .i64 5, .int .i64 0, .int .i64 16, .slice (some ⟨r7, 0, none⟩) 3 c7] 24) none)); have O7 := Lib.hid (o7.nw (World.grownBy_alloc w7 (.cells #[.int .i64 9, .int .i64 5, .int .i64 0, .int .i64 16, .slice (some ⟨r7, 0, none⟩) 3 c7] 24) none)))
    | ((with_reducible refine (three_lb 0 _).mono ?_); rintro e w6 ⟨A6, c6, rfl, o6, g6⟩))
  obtain ⟨U, hU⟩ : ∃ U, w7.alloc (.cells #[.int .i64 9, .int .i64 5, .int .i64 0, .int .i64 16, .slice (some ⟨r7, 0, none⟩) 3 c7] 24) = U := ⟨_, rfl⟩
  obtain ⟨x7, hx7⟩ : ∃ x, w7.heap.size = x := ⟨_, rfl⟩
  rw [hU] at X7 N7 O7
  rw [hx7] at X7 ⊢
  rw [hU]
  have k31 := (X35.out.nw N7.out).cell 1
  have k74 := X7.out.cell 4
  have k71 := X7.out.cell 1
  obtain ⟨u0, hu0, k3m, _⟩ := (O35.out.nw N7.out).cellAt (k := 0) (by decide)
  obtain ⟨u8, hu8, k7m, _⟩ := O7.out.cellN (k := 8) (by decide)
  have N := Lib.hid (gb_trans N35.out N7.out)
  cases hu0
  cases hu8
  clear hU hx7 o6 g6 g7 X35 O35 N35 O7 X7 N7 X5
  go_wp2
  go_ret
  exact ⟨rfl, N.out⟩
end Go.Proofs.Ytkkkhkkjdjnfhaa


/- The statements' first steps: members made live one behind the other; members picked by their place. -/
namespace Go.Proofs.Ytkkkhkkjdjnfhaa
open Go.RowKit Go.BW

def live (m : Mem) : Mem := ⟨m.id, m.sec, 0⟩
def liveTo (ms : List Mem) (j : Nat) : List Mem := (ms.take j).map live ++ ms.drop j
theorem liveTo_zero (ms : List Mem) : liveTo ms 0 = ms := by simp [liveTo]
theorem liveTo_all {ms : List Mem} {j : Nat} (h : ms.length ≤ j) : liveTo ms j = ms.map live := by simp [liveTo, List.take_of_length_le h, List.drop_of_length_le h]
theorem liveTo_len (ms : List Mem) (j : Nat) : (liveTo ms j).length = ms.length := by simp [liveTo]; omega
theorem liveTo_get {ms : List Mem} {j : Nat} {q : Mem} (h : ms[j]? = some q) : (liveTo ms j)[j]? = some q := by
  obtain ⟨hj, hq⟩ := List.getElem?_eq_some_iff.1 h
  unfold liveTo
  rw [List.getElem?_append_right (by simp; omega)]
  simp [Nat.min_eq_left (Nat.le_of_lt hj), h]
theorem liveTo_set {ms : List Mem} {j : Nat} {q : Mem} (h : ms[j]? = some q) : (liveTo ms j).set j (live q) = liveTo ms (j + 1) := by
  obtain ⟨hj, rfl⟩ := List.getElem?_eq_some_iff.1 h
  unfold liveTo
  rw [List.set_append_right _ _ (by simp; omega), List.take_succ_eq_append_getElem hj, List.map_append, List.append_assoc]
  congr 1
  have e : j - ((ms.take j).map live).length = 0 := by simp; omega
  rw [e, List.drop_eq_getElem_cons hj]
  rfl
theorem live_step {w : World} {base r k c j : Nat} {ms : List Mem} (h : Own w base 28 3 (some ⟨r, 0, none⟩) k c (fl mc (liveTo ms j))) (hj : j < k) :
    (∃ u, w.cell? ⟨r, j * 3 + 2, none⟩ = some u ∧ w.frozen? ⟨r, j * 3 + 2, none⟩ = false) ∧
    Own (w.setCell ⟨r, j * 3 + 2, none⟩ (.int .i64 0)) base 28 3 (some ⟨r, 0, none⟩) k c (fl mc (liveTo ms (j + 1))) ∧ w.grownBy (w.setCell ⟨r, j * 3 + 2, none⟩ (.int .i64 0)) (some r) := by
  obtain ⟨u, _, h1, h2⟩ := h.cellN (k := j * 3 + 2) (by omega)
  have hl : ms.length = k := by rw [← liveTo_len ms j]; exact h.lenL mc_len (by decide)
  have hq : ms[j]? = some ms[j] := List.getElem?_eq_getElem (by omega)
  obtain ⟨s, g⟩ := h.set (j * 3 + 2) (.int .i64 0)
  rw [fl_set1 mc_len (x := ms[j]) (y := live ms[j]) (by decide) rfl (liveTo ms j) j (liveTo_get hq), liveTo_set hq] at s
  exact ⟨⟨u, h1, h2⟩, s, g⟩
/-- those members before place j that a test of places picks -/
def picks (P : Nat → Bool) (ms : List Mem) (j : Nat) : List Mem := ((ms.take j).zipIdx.filter (fun p => P p.2)).map (·.1)
theorem picks_zero (P : Nat → Bool) (ms : List Mem) : picks P ms 0 = [] := by simp [picks]
theorem picks_step {P : Nat → Bool} {ms : List Mem} {j : Nat} {x : Mem} (h : ms[j]? = some x) : picks P ms (j + 1) = picks P ms j ++ (if P j then [x] else []) := by
  obtain ⟨hj, rfl⟩ := List.getElem?_eq_some_iff.1 h
  unfold picks
  rw [List.take_succ_eq_append_getElem hj, List.zipIdx_append, List.filter_append, List.map_append]
  congr 1
  simp [List.zipIdx_cons, Nat.min_eq_left (Nat.le_of_lt hj), List.filter_cons]
  split <;> simp
theorem picks_len (P : Nat → Bool) (ms : List Mem) (j : Nat) : (picks P ms j).length ≤ j := by
  unfold picks
  rw [List.length_map]
  refine Nat.le_trans (List.length_filter_le ..) ?_
  rw [List.length_zipIdx, List.length_take]; omega
/-- does a mask name a place? -/
def bt (mask : Int) (t : Nat) : Bool := bits BinOp.and IntKind.i64 (mask / 2 ^ t) 1 == 1
def nbt (mask : Int) (t : Nat) : Bool := !bt mask t
/-- one label with another member's number -/
def withM (x : Lb) (q : Mem) : Lb := ⟨x.a, x.g, q.id, x.b, x.A, x.n, x.c, x.ms⟩
/-- what another row's growth leaves as it is -/
theorem Obj1.kept' {w w' : World} {g : Nat} {t : TypeId} {cs : Array Value} {row : Option Nat} (h : Obj1 w g t cs) (k : w.grownBy w' row) (hn : ∀ r, row = some r → g ≠ r) : Obj1 w' g t cs := by
  refine h.chg (Chg.of_gb (F := row.toList) k (by intro q hq; simp [hq])) ?_
  rcases row with _ | r
  · simp
  · simpa using hn r rfl
theorem own_apart {w : World} {b b' s s' n n' c c' : Nat} {t t' : TypeId} {A A' : Option Addr} {xs xs' : List Value} (h : Own w b t s A n c xs) (h' : Own w b' t' s' A' n' c' xs') (ht : t' ≠ t) :
    ∀ r, (Value.slice A n c).ownBlock = some r → (Value.slice A' n' c').ownBlock ≠ some r := by
  intro r hr he
  obtain ⟨_, q1⟩ := h.rowObj _ hr
  obtain ⟨_, q2⟩ := h'.rowObj _ he
  exact q2.ne q1 ht rfl
theorem own_obj {w : World} {b s n c g : Nat} {t t' : TypeId} {A : Option Addr} {xs : List Value} {cs : Array Value} (h : Own w b t s A n c xs) (h' : Obj1 w g t' cs) (ht : t' ≠ t) :
    ∀ r, (Value.slice A n c).ownBlock = some r → g ≠ r := by
  intro r hr
  obtain ⟨_, q1⟩ := h.rowObj _ hr
  exact h'.ne q1 ht
theorem nw_alloc {w w' : World} {o : Obj} (h : Nw w w') : Nw w (w'.alloc o) := gb_trans h (World.grownBy_alloc w' o none)
/-- one new variable of which one cell is set at once -/
theorem new_set {w : World} (t : TypeId) (cs : Array Value) (i : Nat) (u : Value) : ∃ W, (w.alloc (.cells cs t)).setCell ⟨w.heap.size, i, none⟩ u = W ∧ Obj1 W w.heap.size t (cs.set! i u) ∧ Nw w W := by
  refine ⟨_, rfl, (Obj1.new w t cs).set i u, ?_⟩
  have g1 : (w.alloc (.cells cs t)).grownBy ((w.alloc (.cells cs t)).setCell ⟨w.heap.size, i, none⟩ u) (some w.heap.size) := gb_set (gb_nw (Nw.refl _)) (.inl rfl) _
  exact nw_of_gb (World.grownBy_alloc w (.cells cs t) none) g1 (fun r hr => by injection hr with hr; omega)
end Go.Proofs.Ytkkkhkkjdjnfhaa


/- Plain laws: what Choose answers to one label with some of its members' numbers. -/
namespace Go.Proofs.Ytkkkhkkjdjnfhaa
open Go.RowKit Go.BW

theorem good_all : ∀ (ms : List Mem) (last : Int), goodFrom last ms = true → (∀ m ∈ ms, last < m.id ∧ mayM m = true) ∧ ms.Pairwise (fun p q => p.id < q.id)
  | [], _, _ => ⟨fun m hm => by simp at hm, List.Pairwise.nil⟩
  | m :: ms, last, h => by
    unfold goodFrom at h
    simp only [Bool.and_eq_true, decide_eq_true_eq] at h
    obtain ⟨⟨h1, h2⟩, h3⟩ := h
    obtain ⟨i1, i2⟩ := good_all ms m.id h3
    refine ⟨?_, List.Pairwise.cons (fun q hq => (i1 q hq).1) i2⟩
    intro q hq
    rcases List.mem_cons.1 hq with rfl | hq
    · exact ⟨h2, h1⟩
    · exact ⟨Int.lt_trans h2 (i1 q hq).1, (i1 q hq).2⟩
theorem right_parts {x : Lb} (h : rightB x = true) : 3 ≤ x.n ∧ x.n ≤ 12 ∧ 0 ≤ x.a ∧ x.a ≤ 4294967295 ∧ 1 ≤ x.g ∧ x.g ≤ 4294967295 ∧ 1 ≤ x.b ∧ x.b ≤ 96 ∧ goodFrom (-1) x.ms = true ∧ x.ms.any (fun m => m.id == x.m) = true := by
  unfold rightB inB at h
  simp only [Bool.and_eq_true, decide_eq_true_eq] at h
  obtain ⟨⟨⟨⟨⟨⟨h1, h2⟩, h3, h4⟩, h5, h6⟩, h7, h8⟩, h9⟩, h10⟩ := h
  refine ⟨by omega, by omega, h1, h2, h3, h4, h5, h6, h9, h10⟩
theorem right_rise {x : Lb} (h : rightB x = true) : x.ms.Pairwise (fun p q => p.id < q.id) := (good_all _ _ (right_parts h).2.2.2.2.2.2.2.2.1).2
theorem right_may {x : Lb} (h : rightB x = true) : ∀ m ∈ x.ms, mayM m = true := fun m hm => ((good_all _ _ (right_parts h).2.2.2.2.2.2.2.2.1).1 m hm).2
theorem id_inj {ms : List Mem} (h : ms.Pairwise (fun p q => p.id < q.id)) {i j : Nat} {p q : Mem} (hi : ms[i]? = some p) (hj : ms[j]? = some q) (he : p.id = q.id) : i = j := by
  obtain ⟨h1, rfl⟩ := List.getElem?_eq_some_iff.1 hi
  obtain ⟨h2, rfl⟩ := List.getElem?_eq_some_iff.1 hj
  rw [List.pairwise_iff_getElem] at h
  rcases Nat.lt_trichotomy i j with hl | hl | hl
  · have := h i j h1 h2 hl; omega
  · exact hl
  · have := h j i h2 h1 hl; omega
theorem picks_all (P : Nat → Bool) (ms : List Mem) : picks P ms ms.length = (ms.zipIdx.filter (fun p => P p.2)).map (·.1) := by
  unfold picks; rw [List.take_length]
theorem mem_picks {P : Nat → Bool} {ms : List Mem} {q : Mem} : q ∈ picks P ms ms.length ↔ ∃ t, ms[t]? = some q ∧ P t = true := by
  rw [picks_all, List.mem_map]
  constructor
  · rintro ⟨⟨q', t⟩, hm, rfl⟩
    rw [List.mem_filter, List.mem_zipIdx_iff_getElem?] at hm
    exact ⟨t, hm.1, hm.2⟩
  · rintro ⟨t, h1, h2⟩
    exact ⟨(q, t), by rw [List.mem_filter, List.mem_zipIdx_iff_getElem?]; exact ⟨h1, h2⟩, rfl⟩
theorem filter_picks (f : Mem → Bool) (P : Nat → Bool) (ms : List Mem) (h : ∀ t q, ms[t]? = some q → f q = P t) : ms.filter f = picks P ms ms.length := by
  rw [picks_all]
  have e : ms = ms.zipIdx.map (·.1) := by rw [List.zipIdx_map_fst]
  conv => lhs; rw [e]
  rw [List.filter_map]
  congr 1
  refine List.filter_congr ?_
  rintro ⟨q, t⟩ hm
  rw [List.mem_zipIdx_iff_getElem?] at hm
  exact h t q hm
/-- one label with another member's number -/
theorem withM_right {x : Lb} {q : Mem} (h : rightB x = true) (hq : ∃ p ∈ x.ms, p.id = q.id) : rightB (withM x q) = true := by
  unfold rightB at h ⊢
  simp only [Bool.and_eq_true] at h ⊢
  refine ⟨h.1, ?_⟩
  rw [List.any_eq_true]
  obtain ⟨p, hp, he⟩ := hq
  exact ⟨p, hp, by simpa [withM] using he⟩
theorem sameB_withM (x : Lb) (p q : Mem) : sameB (withM x p) (withM x q) = true := by
  unfold sameB withM eqM; simp
theorem choose_plain {x : Lb} {sel : List Mem} (h : rightB x = true) (hq : ∀ q ∈ sel, ∃ p ∈ x.ms, p.id = q.id) (h0 : sel ≠ []) :
    ((sel.map (withM x)).filter rightB = sel.map (withM x)) ∧ (∃ q ∈ sel, maxOf (sel.map (withM x)) = withM x q) ∧ (∀ q, (sel.map (withM x)).any (clash (withM x q)) = false) ∧
    (∀ q, missL (sel.map (withM x)) (withM x q) = (x.ms.filter (fun m => m.st == 0 && !sel.any (fun q => q.id == m.id))).map (·.id)) := by
  refine ⟨?_, ?_, ?_, ?_⟩
  · rw [List.filter_eq_self]
    intro y hy
    obtain ⟨q, hm, rfl⟩ := List.mem_map.1 hy
    exact withM_right h (hq q hm)
  · have hm := maxOf_mem (l := sel.map (withM x)) (by simpa using h0)
    obtain ⟨q, hm, he⟩ := List.mem_map.1 hm
    exact ⟨q, hm, he.symm⟩
  · intro q
    rw [List.any_eq_false]
    intro y hy
    obtain ⟨p, _, rfl⟩ := List.mem_map.1 hy
    unfold clash
    rw [sameB_withM]
    simp
  · intro q
    unfold missL
    congr 1
    refine List.filter_congr fun m _ => ?_
    unfold missB
    congr 2
    rw [List.any_map]
    unfold ofM withM
    simp [Function.comp_def]
theorem choose_nil : chooseE [] = 8 := rfl
/-- one label, all live, of which the places that P names are there -/
theorem choose_miss {x : Lb} (P : Nat → Bool) (h : rightB x = true) (hl : ∀ m ∈ x.ms, m.st = 0) (h0 : picks (fun t => !P t) x.ms x.ms.length ≠ []) :
    let all := (picks (fun t => !P t) x.ms x.ms.length).map (withM x)
    all.filter rightB = all ∧ (∃ q, maxOf all = withM x q) ∧ (∀ q, missL all (withM x q) = (picks P x.ms x.ms.length).map (·.id)) ∧
    chooseE all = if 1 < (picks P x.ms x.ms.length).length then 5 else 0 := by
  intro all
  obtain ⟨h1, ⟨q, _, h2⟩, h3, h4⟩ := choose_plain (sel := picks (fun t => !P t) x.ms x.ms.length) h (fun q hq => by obtain ⟨t, ht, _⟩ := mem_picks.1 hq; exact ⟨q, List.mem_of_getElem? ht, rfl⟩) h0
  have hf : x.ms.filter (fun m => m.st == 0 && !(picks (fun t => !P t) x.ms x.ms.length).any (fun q => q.id == m.id)) = picks P x.ms x.ms.length := by
    refine filter_picks _ _ _ fun t m ht => ?_
    rw [hl m (List.mem_of_getElem? ht)]
    simp only [beq_self_eq_true, Bool.true_and]
    cases hP : P t
    · rw [Bool.not_eq_eq_eq_not, Bool.not_false, List.any_eq_true]
      exact ⟨m, mem_picks.2 ⟨t, ht, by simp [hP]⟩, by simp⟩
    · rw [Bool.not_eq_eq_eq_not, Bool.not_true, List.any_eq_false]
      intro q hq he
      obtain ⟨t', ht', hp'⟩ := mem_picks.1 hq
      have := id_inj (right_rise h) ht' ht (by simpa using he)
      subst this
      simp [hP] at hp'
  have hm : ∀ q, missL all (withM x q) = (picks P x.ms x.ms.length).map (·.id) := fun q => by rw [← hf]; exact h4 q
  refine ⟨h1, ⟨q, h2⟩, hm, ?_⟩
  have hne : all ≠ [] := by intro e; exact h0 (by simpa using List.map_eq_nil_iff.1 e)
  unfold chooseE
  simp only
  rw [h1, if_neg hne, h2, h3 q, hm q, List.length_map]
  rfl
end Go.Proofs.Ytkkkhkkjdjnfhaa

