/- What Lost answers to a right label of live members. -/
import Derived.Test.YtkkkhkkjdjnfhaaN
import Derived.Test.YtkkkhkkjdjnfhaaO
namespace Go.BW
open Go.RowKit
theorem wp_store_obj {P : Program} {o : Oper} {a : Act} {w : World} {K : Act → World → Prop} {Q : Exit → Act → World → Prop} (ty : TypeId) (p x : Operand) (hop : o.op = .store ty p x) {g : Nat} {t : TypeId} {c0 : Array Value} (cs : List Value)
    (hp : a.eval p = .pointer (some ⟨g, 0, none⟩)) {v : Value} (hx : a.eval x = v) (hv : v.cells = cs.toArray) (hi : (P.info? ty).map (·.size) = some cs.length) (h1 : ∀ u ∈ cs, u.oneCell' = true)
    (ho : Obj1 w g t c0) (hl : c0.size = cs.length) (hK : ∀ w', Obj1 w' g t cs.toArray → w.grownBy w' (some g) → K (a.put o.dst undef) w') : o.wp P a w K Q := by
  refine wp_store_own ty p x hop hp hx hv hi h1 (ho.own hl) (by omega) fun w' h2 h3 => hK w' ?_ h3
  rw [splice_all _ _ (by simpa using hl.symm)] at h2
  exact h2.row1'
theorem wpOp_take {P : Program} {ops : Array Oper} {Q : Exit → Act → World → Prop} {a : Act} {w : World} {Kp : Act → World → Prop} (i : Nat) {o : Oper} (hi : ops[i]? = some o) (hw : Region.wanted o (yielded ops a.tmps) = true)
    (h : ∀ K : Act → World → Prop, (∀ a w, Kp a w → K a w) → o.wp P a w K Q) : wpOp P ops Q i Kp a w := by
  unfold wpOp
  simp only [hi, hw, if_true]
  exact .inl (h _ fun _ _ hh => hh)
theorem load_of {w : World} {x : Nat} {t : TypeId} {cs : List Value} (h : Obj1 w x t cs.toArray) : ∀ j u, cs[j]? = some u → w.cell? ⟨x, 0 + j, none⟩ = some u := fun j u hu => by rw [Nat.zero_add, h.cell j]; simpa using hu
end Go.BW
namespace Go.Proofs.Ytkkkhkkjdjnfhaa
open Go.RowKit Go.BW

theorem and_255 (x : Int) : ∃ m : Nat, bits .and .i64 x 255 = (m : Int) ∧ m ≤ 255 := by
  have h := and_mask x 8 (by decide)
  have e1 : (2 : Int) ^ 8 - 1 = 255 := by decide
  have e2 : (2 : Int) ^ 8 = 256 := by decide
  rw [e1, e2] at h
  exact ⟨(x % 256).toNat, by omega, by omega⟩
/-- a place that a number names -/
theorem place (x : Int) {j : Nat} (hj : 0 < j) : ∃ m i : Nat, bits .and .i64 x 255 = (m : Int) ∧ (m : Int).tmod (j : Int) = (i : Int) ∧ i < j := by
  obtain ⟨m, h1, _⟩ := and_255 x
  exact ⟨m, m % j, h1, by rw [Int.tmod_eq_emod_of_nonneg (by omega)]; simp, Nat.mod_lt _ hj⟩
theorem find_at {ms : List Mem} (hr : ms.Pairwise (fun p q => p.id < q.id)) {i : Nat} {q : Mem} (h : ms[i]? = some q) : ms.find? (fun m => m.id == q.id) = some q ∧ ms.findIdx? (fun m => m.id == q.id) = some i := by
  rcases find_of_idx (p := fun m => m.id == q.id) (ms := ms) with ⟨_, hn, _⟩ | ⟨i', m, _, hm, hp, hf, hx⟩
  · have := List.find?_eq_none.1 hn q (List.mem_of_getElem? h); simp at this
  · have e := id_inj hr hm h (by simpa using hp)
    subst e
    rw [h] at hm; cases hm
    exact ⟨hf, hx⟩
theorem lostM_at {ms : List Mem} (hr : ms.Pairwise (fun p q => p.id < q.id)) {i : Nat} {q : Mem} (h : ms[i]? = some q) : lostM ms q.id = ms.set i (failed q) := by
  unfold lostM
  rw [(find_at hr h).2]
  exact modify_set h failed
theorem may_failed {q : Mem} (h : mayM q = true) : mayM (failed q) = true := by
  unfold mayM failed inB at *
  simp only [Bool.and_eq_true, decide_eq_true_eq] at *
  omega
theorem good_set {q : Mem} : ∀ (ms : List Mem) (last : Int) (i : Nat), goodFrom last ms = true → ms[i]? = some q → goodFrom last (ms.set i (failed q)) = true
  | [], _, _, _, h => by simp at h
  | m :: ms, last, 0, h, hq => by
    simp at hq; subst hq
    rw [List.set_cons_zero]
    unfold goodFrom at h ⊢
    simp only [Bool.and_eq_true, decide_eq_true_eq] at h ⊢
    exact ⟨⟨may_failed h.1.1, h.1.2⟩, h.2⟩
  | m :: ms, last, i + 1, h, hq => by
    rw [List.set_cons_succ]
    unfold goodFrom at h ⊢
    simp only [Bool.and_eq_true, decide_eq_true_eq] at h ⊢
    exact ⟨h.1, good_set ms m.id i h.2 (by simpa using hq)⟩
theorem any_set {q : Mem} (f : Mem → Bool) (hf : f (failed q) = f q) : ∀ (ms : List Mem) (i : Nat), ms[i]? = some q → (ms.set i (failed q)).any f = ms.any f
  | [], _, h => by simp at h
  | m :: ms, 0, h => by simp at h; subst h; simp [hf]
  | m :: ms, i + 1, h => by rw [List.set_cons_succ, List.any_cons, List.any_cons, any_set f hf ms i (by simpa using h)]
theorem right_lost {x : Lb} {i : Nat} {q : Mem} (h : rightB x = true) (hg : x.g ≤ 4294967294) (hq : x.ms[i]? = some q) : rightB (lostL x q.id) = true := by
  have hr := right_rise h
  have hp := right_parts h
  unfold rightB inB at h ⊢
  unfold lostL
  simp only [lostM_at hr hq, Bool.and_eq_true, decide_eq_true_eq] at h ⊢
  obtain ⟨⟨⟨⟨⟨h1, h3⟩, h5⟩, h7⟩, h9⟩, h10⟩ := h
  exact ⟨⟨⟨⟨⟨h1, by omega, by omega⟩, h5⟩, h7⟩, good_set _ _ _ h9 hq⟩, by rw [any_set _ (by rfl) _ _ hq]; exact h10⟩
theorem lostE_live {x : Lb} {i : Nat} {q : Mem} (h : rightB x = true) (hl : ∀ m ∈ x.ms, m.st = 0) (hg : x.g ≤ 4294967294) (hq : x.ms[i]? = some q) : lostE x q.id = 0 := by
  unfold lostE
  rw [if_neg (by rw [h]; decide), (find_at (right_rise h) hq).1]
  have h0 : ¬ q.st ≠ 0 := by simp [hl q (List.mem_of_getElem? hq)]
  have h1 : ¬ (x.ms.any fun m => m.st == 1) = true := by
    rw [Bool.not_eq_true, List.any_eq_false]
    intro m hm
    rw [hl m hm]; decide
  simp only
  rw [if_neg h0, if_neg h1, if_pos (right_lost h hg hq)]
theorem lostE_33 {x : Lb} (h : rightB x = true) : lostE x 33 = 1 := by
  unfold lostE
  rw [if_neg (by rw [h]; decide)]
  have : x.ms.find? (fun m => m.id == 33) = none := by
    rw [List.find?_eq_none]
    intro m hm
    have := right_may h m hm
    unfold mayM inB at this
    simp only [Bool.and_eq_true, decide_eq_true_eq] at this
    simp; omega
  rw [this]
theorem set_at {ms : List Mem} {i k : Nat} {q p : Mem} (hq : ms[i]? = some q) (hp : ms[k]? = some p) : (ms.set i (failed q))[k]? = some (if k = i then failed q else p) := by
  rw [List.getElem?_set]
  obtain ⟨hi, _⟩ := List.getElem?_eq_some_iff.1 hq
  by_cases e : i = k
  · subst e; simp [hi]
  · rw [if_neg e, hp, if_neg (Ne.symm e)]
theorem lostE_again {x : Lb} {i k : Nat} {q p : Mem} {A : Option Addr} {c : Nat} (h : rightB x = true) (hl : ∀ m ∈ x.ms, m.st = 0) (hg : x.g ≤ 4294967294) (hq : x.ms[i]? = some q) (hp : x.ms[k]? = some p) :
    rightB ⟨x.a, x.g + 1, x.m, x.b, A, x.n, c, x.ms.set i (failed q)⟩ = true ∧ lostE ⟨x.a, x.g + 1, x.m, x.b, A, x.n, c, x.ms.set i (failed q)⟩ p.id = if k = i then 9 else 5 := by
  have hr : rightB ⟨x.a, x.g + 1, x.m, x.b, A, x.n, c, x.ms.set i (failed q)⟩ = true := by
    have := right_lost h hg hq
    unfold lostL at this
    rw [lostM_at (right_rise h) hq] at this
    exact this
  refine ⟨hr, ?_⟩
  unfold lostE
  rw [if_neg (by rw [hr]; decide)]
  have hs := set_at hq hp
  have hf := (find_at (right_rise hr) hs).1
  simp only at hf ⊢
  by_cases e : k = i
  · subst e
    rw [if_pos rfl] at hf ⊢
    rw [hq] at hp; cases hp
    rw [show (failed q).id = q.id from rfl] at hf
    rw [hf]
    rfl
  · rw [if_neg e] at hf ⊢
    rw [hf]
    have h0 : ¬ p.st ≠ 0 := by simp [hl p (List.mem_of_getElem? hp)]
    have h1 : ((x.ms.set i (failed q)).any fun m => m.st == 1) = true := by
      rw [List.any_eq_true]
      refine ⟨failed q, ?_, rfl⟩
      have := set_at hq hq
      rw [if_pos rfl] at this
      exact List.mem_of_getElem? this
    simp only
    rw [if_neg h0, if_pos h1]
theorem lost_live {w : World} {B i : Nat} {x : Lb} {q : Mem} (h : LOk w B x) (hB : B ≤ w.heap.size) (hn : x.n ≤ 1000000) (hr : rightB x = true) (hl : ∀ m ∈ x.ms, m.st = 0) (hg : x.g ≤ 4294967294) (hq : x.ms[i]? = some q) :
    Calls Try.prog 11 #[.agg #[.int .i64 x.a, .int .i64 x.g, .int .i64 x.m, .int .i64 x.b, .slice x.A x.n x.c], .int .i64 q.id] w (fun e w' => Nw w w' ∧ ∃ r c, e = .returned (.tuple #[.agg #[.int .i64 x.a, .int .i64 (x.g + 1), .int .i64 x.m, .int .i64 x.b, .slice (some ⟨r, 0, none⟩) x.n c], .int .i64 0]) ∧
      Own w' w.heap.size 28 3 (some ⟨r, 0, none⟩) x.n c (fl mc (x.ms.set i (failed q)))) := by
  refine (lost_any (id := q.id) h hB hn).mono ?_
  rintro e w' ⟨k, hp⟩
  rw [lostE_live hr hl hg hq, lostM_at (right_rise hr) hq] at hp
  rcases hp with ⟨h0, _⟩ | ⟨_, A, n, c, rfl, p⟩
  · exact absurd rfl h0
  have hnn : n = x.n := by
    have h1 := p.lenL mc_len (by decide)
    rw [List.length_set] at h1
    rw [← h1]; exact h.len
  subst hnn
  have := (right_parts hr).1
  obtain ⟨r, rfl, _⟩ := p.some_ (by omega)
  exact ⟨k, r, c, rfl, p⟩
theorem lost_fail {w : World} {B : Nat} {x : Lb} {id v : Int} (h : LOk w B x) (hB : B ≤ w.heap.size) (hn : x.n ≤ 1000000) (he : lostE x id = v) (hv : v ≠ 0) :
    Calls Try.prog 11 #[.agg #[.int .i64 x.a, .int .i64 x.g, .int .i64 x.m, .int .i64 x.b, .slice x.A x.n x.c], .int .i64 id] w (fun e w' => e = .returned (.tuple #[.agg #[.int .i64 0, .int .i64 0, .int .i64 0, .int .i64 0, .slice none 0 0], .int .i64 v]) ∧ Nw w w') := by
  refine (lost_any (id := id) h hB hn).mono ?_
  rintro e w' ⟨k, hp⟩
  rw [he] at hp
  rcases hp with ⟨_, rfl⟩ | ⟨h0, _⟩
  · exact ⟨rfl, k⟩
  · exact absurd h0 hv
end Go.Proofs.Ytkkkhkkjdjnfhaa

