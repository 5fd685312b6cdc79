/- Labels that came in. -/
import Derived.Test.YtkkkhkkjdjnfhaaJC
import Derived.Test.YtkkkhkkjdjnfhaaJB
import Derived.Test.YtkkkhkkjdjnfhaaJG
set_option linter.unusedVariables false
set_option linter.unusedSimpArgs false
/- Labels that came in. -/
namespace Go.Proofs.Ytkkkhkkjdjnfhaa
open Go.RowKit Go.BW Go.ChangeShapes Go.WideShapes Go.Deep
section
variable {H : Type} {enc : TypeId × Value → H} {w : World} {base : Nat} {spare : Nat → Bool} {held : Bool} {x : DataW H × List MemPlace} {cs : List Value} {n : Nat}
theorem mem_open (h : DataW.trod enc Try.prog w base spare held n 28 cs = some x) : ∃ o : Mem, True ∧ cs = mc o := by
  have hl : cs.length = 3 := (struct_len Try.underlying28 h).trans (by kernel_rfl)
  obtain ⟨_, _, h0⟩ := field_open Try.underlying28 h 0 _ rfl
  obtain ⟨_, _, h1⟩ := field_open Try.underlying28 h 1 _ rfl
  obtain ⟨_, _, h2⟩ := field_open Try.underlying28 h 2 _ rfl
  obtain ⟨a, e0, b0⟩ := int_open Try.underlying3 h0
  obtain ⟨b, e1, b1⟩ := int_open Try.underlying3 h1
  obtain ⟨c, e2, b2⟩ := int_open Try.underlying3 h2
  exact ⟨⟨a, b, c⟩, trivial, cut3 hl e0 e1 e2⟩
theorem mems_open (h : DataW.trod enc Try.prog w base spare held n 22 cs = some x) : ∃ A n c, cs = [.slice A n c] ∧ ∃ ms, InL w mc 3 (fun _ : Mem => True) A n c ms := by
  rcases open_slice Try.underlying22 h with ⟨hcs, _⟩ | ⟨ad, len', cap', m, n, D, Pl, hcs, _⟩
  · subst hcs
    exact ⟨_, _, _, rfl, inL_open Try.underlying22 (by kernel_rfl) (by omega) (fun _ _ _ h => mem_open h) h⟩
  · subst hcs
    exact ⟨_, _, _, rfl, inL_open Try.underlying22 (by kernel_rfl) (by omega) (fun _ _ _ h => mem_open h) h⟩
theorem cut5 {l : List Value} {a b c d e : Value} (hl : l.length = 5) (h0 : (l.drop 0).take 1 = [a]) (h1 : (l.drop 1).take 1 = [b]) (h2 : (l.drop 2).take 1 = [c]) (h3 : (l.drop 3).take 1 = [d]) (h4 : (l.drop 4).take 1 = [e]) : l = [a, b, c, d, e] := by
  match l, hl with
  | [x, y, z, u, v], _ => simp at h0 h1 h2 h3 h4; simp [h0, h1, h2, h3, h4]
def LIn (w : World) (x : Lb) : Prop := LOk w w.heap.size x
theorem label_open (h : DataW.trod enc Try.prog w base spare held n 24 cs = some x) : ∃ o : Lb, LIn w o ∧ cs = lc o := by
  have hl : cs.length = 5 := (struct_len Try.underlying24 h).trans (by kernel_rfl)
  obtain ⟨_, _, h0⟩ := field_open Try.underlying24 h 0 _ rfl
  obtain ⟨_, _, h1⟩ := field_open Try.underlying24 h 1 _ rfl
  obtain ⟨_, _, h2⟩ := field_open Try.underlying24 h 2 _ rfl
  obtain ⟨_, _, h3⟩ := field_open Try.underlying24 h 3 _ rfl
  obtain ⟨_, _, h4⟩ := field_open Try.underlying24 h 4 _ rfl
  obtain ⟨a, e0, b0⟩ := int_open Try.underlying3 h0
  obtain ⟨b, e1, b1⟩ := int_open Try.underlying3 h1
  obtain ⟨c, e2, b2⟩ := int_open Try.underlying3 h2
  obtain ⟨d, e3, b3⟩ := int_open Try.underlying3 h3
  obtain ⟨A, n, k, e4, ms, hr, hnc, hcm, _, _⟩ := mems_open h4
  exact ⟨⟨a, b, c, d, A, n, k, ms⟩, ⟨hr, hnc, hcm⟩, cut5 hl e0 e1 e2 e3 e4⟩
theorem lv_of (x : Lb) (cs : Array Value) (h : cs.toList = lc x) : Value.agg cs = lv x := by
  obtain ⟨l⟩ := cs
  simp at h
  subst h
  rfl
theorem labels_open {fuel : Nat} {a : Option Addr} {len cap : Nat} (h : DataW.trod enc Try.prog w base spare held fuel 33 [.slice a len cap] = some x) : ∃ os, InL w lc 5 (LIn w) a len cap os :=
  inL_open Try.underlying33 (by kernel_rfl) (by omega) (fun _ _ _ h => label_open h) h
end
end Go.Proofs.Ytkkkhkkjdjnfhaa


/- What Lost answers to a right label of live members. -/
namespace Go.BW
open Go.RowKit
theorem wp_store_obj {P : Program} {o : Oper} {a : Act} {w : World} {K : Act → World → Prop} {Q : Exit → Act → World → Prop} (ty : TypeId) (p x : Operand) (hop : o.op = .store ty p x) {g : Nat} {t : TypeId} {c0 : Array Value} (cs : List Value)
    (hp : a.eval p = .pointer (some ⟨g, 0, none⟩)) {v : Value} (hx : a.eval x = v) (hv : v.cells = cs.toArray) (hi : (P.info? ty).map (·.size) = some cs.length) (h1 : ∀ u ∈ cs, u.oneCell' = true)
    (ho : Obj1 w g t c0) (hl : c0.size = cs.length) (hK : ∀ w', Obj1 w' g t cs.toArray → w.grownBy w' (some g) → K (a.put o.dst undef) w') : o.wp P a w K Q := by
  refine wp_store_own ty p x hop hp hx hv hi h1 (ho.own hl) (by omega) fun w' h2 h3 => hK w' ?_ h3
  rw [splice_all _ _ (by simpa using hl.symm)] at h2
  exact h2.row1'
theorem wpOp_take {P : Program} {ops : Array Oper} {Q : Exit → Act → World → Prop} {a : Act} {w : World} {Kp : Act → World → Prop} (i : Nat) {o : Oper} (hi : ops[i]? = some o) (hw : Region.wanted o (yielded ops a.tmps) = true)
    (h : ∀ K : Act → World → Prop, (∀ a w, Kp a w → K a w) → o.wp P a w K Q) : wpOp P ops Q i Kp a w := by
  unfold wpOp
  simp only [hi, hw, if_true]
  exact .inl (h _ fun _ _ hh => hh)
theorem load_of {w : World} {x : Nat} {t : TypeId} {cs : List Value} (h : Obj1 w x t cs.toArray) : ∀ j u, cs[j]? = some u → w.cell? ⟨x, 0 + j, none⟩ = some u := fun j u hu => by rw [Nat.zero_add, h.cell j]; simpa using hu
end Go.BW
namespace Go.Proofs.Ytkkkhkkjdjnfhaa
open Go.RowKit Go.BW

theorem and_255 (x : Int) : ∃ m : Nat, bits .and .i64 x 255 = (m : Int) ∧ m ≤ 255 := by
  have h := and_mask x 8 (by decide)
  have e1 : (2 : Int) ^ 8 - 1 = 255 := by decide
  have e2 : (2 : Int) ^ 8 = 256 := by decide
  rw [e1, e2] at h
  exact ⟨(x % 256).toNat, by omega, by omega⟩
/-- a place that a number names -/
theorem place (x : Int) {j : Nat} (hj : 0 < j) : ∃ m i : Nat, bits .and .i64 x 255 = (m : Int) ∧ (m : Int).tmod (j : Int) = (i : Int) ∧ i < j := by
  obtain ⟨m, h1, _⟩ := and_255 x
  exact ⟨m, m % j, h1, by rw [Int.tmod_eq_emod_of_nonneg (by omega)]; simp, Nat.mod_lt _ hj⟩
theorem find_at {ms : List Mem} (hr : ms.Pairwise (fun p q => p.id < q.id)) {i : Nat} {q : Mem} (h : ms[i]? = some q) : ms.find? (fun m => m.id == q.id) = some q ∧ ms.findIdx? (fun m => m.id == q.id) = some i := by
  rcases find_of_idx (p := fun m => m.id == q.id) (ms := ms) with ⟨_, hn, _⟩ | ⟨i', m, _, hm, hp, hf, hx⟩
  · have := List.find?_eq_none.1 hn q (List.mem_of_getElem? h); simp at this
  · have e := id_inj hr hm h (by simpa using hp)
    subst e
    rw [h] at hm; cases hm
    exact ⟨hf, hx⟩
theorem lostM_at {ms : List Mem} (hr : ms.Pairwise (fun p q => p.id < q.id)) {i : Nat} {q : Mem} (h : ms[i]? = some q) : lostM ms q.id = ms.set i (failed q) := by
  unfold lostM
  rw [(find_at hr h).2]
  exact modify_set h failed
theorem may_failed {q : Mem} (h : mayM q = true) : mayM (failed q) = true := by
  unfold mayM failed inB at *
  simp only [Bool.and_eq_true, decide_eq_true_eq] at *
  omega
theorem good_set {q : Mem} : ∀ (ms : List Mem) (last : Int) (i : Nat), goodFrom last ms = true → ms[i]? = some q → goodFrom last (ms.set i (failed q)) = true
  | [], _, _, _, h => by simp at h
  | m :: ms, last, 0, h, hq => by
    simp at hq; subst hq
    rw [List.set_cons_zero]
    unfold goodFrom at h ⊢
    simp only [Bool.and_eq_true, decide_eq_true_eq] at h ⊢
    exact ⟨⟨may_failed h.1.1, h.1.2⟩, h.2⟩
  | m :: ms, last, i + 1, h, hq => by
    rw [List.set_cons_succ]
    unfold goodFrom at h ⊢
    simp only [Bool.and_eq_true, decide_eq_true_eq] at h ⊢
    exact ⟨h.1, good_set ms m.id i h.2 (by simpa using hq)⟩
theorem any_set {q : Mem} (f : Mem → Bool) (hf : f (failed q) = f q) : ∀ (ms : List Mem) (i : Nat), ms[i]? = some q → (ms.set i (failed q)).any f = ms.any f
  | [], _, h => by simp at h
  | m :: ms, 0, h => by simp at h; subst h; simp [hf]
  | m :: ms, i + 1, h => by rw [List.set_cons_succ, List.any_cons, List.any_cons, any_set f hf ms i (by simpa using h)]
theorem right_lost {x : Lb} {i : Nat} {q : Mem} (h : rightB x = true) (hg : x.g ≤ 4294967294) (hq : x.ms[i]? = some q) : rightB (lostL x q.id) = true := by
  have hr := right_rise h
  have hp := right_parts h
  unfold rightB inB at h ⊢
  unfold lostL
  simp only [lostM_at hr hq, Bool.and_eq_true, decide_eq_true_eq] at h ⊢
  obtain ⟨⟨⟨⟨⟨h1, h3⟩, h5⟩, h7⟩, h9⟩, h10⟩ := h
  exact ⟨⟨⟨⟨⟨h1, by omega, by omega⟩, h5⟩, h7⟩, good_set _ _ _ h9 hq⟩, by rw [any_set _ (by rfl) _ _ hq]; exact h10⟩
theorem lostE_live {x : Lb} {i : Nat} {q : Mem} (h : rightB x = true) (hl : ∀ m ∈ x.ms, m.st = 0) (hg : x.g ≤ 4294967294) (hq : x.ms[i]? = some q) : lostE x q.id = 0 := by
  unfold lostE
  rw [if_neg (by rw [h]; decide), (find_at (right_rise h) hq).1]
  have h0 : ¬ q.st ≠ 0 := by simp [hl q (List.mem_of_getElem? hq)]
  have h1 : ¬ (x.ms.any fun m => m.st == 1) = true := by
    rw [Bool.not_eq_true, List.any_eq_false]
    intro m hm
    rw [hl m hm]; decide
  simp only
  rw [if_neg h0, if_neg h1, if_pos (right_lost h hg hq)]
theorem lostE_33 {x : Lb} (h : rightB x = true) : lostE x 33 = 1 := by
  unfold lostE
  rw [if_neg (by rw [h]; decide)]
  have : x.ms.find? (fun m => m.id == 33) = none := by
    rw [List.find?_eq_none]
    intro m hm
    have := right_may h m hm
    unfold mayM inB at this
    simp only [Bool.and_eq_true, decide_eq_true_eq] at this
    simp; omega
  rw [this]
theorem set_at {ms : List Mem} {i k : Nat} {q p : Mem} (hq : ms[i]? = some q) (hp : ms[k]? = some p) : (ms.set i (failed q))[k]? = some (if k = i then failed q else p) := by
  rw [List.getElem?_set]
  obtain ⟨hi, _⟩ := List.getElem?_eq_some_iff.1 hq
  by_cases e : i = k
  · subst e; simp [hi]
  · rw [if_neg e, hp, if_neg (Ne.symm e)]
theorem lostE_again {x : Lb} {i k : Nat} {q p : Mem} {A : Option Addr} {c : Nat} (h : rightB x = true) (hl : ∀ m ∈ x.ms, m.st = 0) (hg : x.g ≤ 4294967294) (hq : x.ms[i]? = some q) (hp : x.ms[k]? = some p) :
    rightB ⟨x.a, x.g + 1, x.m, x.b, A, x.n, c, x.ms.set i (failed q)⟩ = true ∧ lostE ⟨x.a, x.g + 1, x.m, x.b, A, x.n, c, x.ms.set i (failed q)⟩ p.id = if k = i then 9 else 5 := by
  have hr : rightB ⟨x.a, x.g + 1, x.m, x.b, A, x.n, c, x.ms.set i (failed q)⟩ = true := by
    have := right_lost h hg hq
    unfold lostL at this
    rw [lostM_at (right_rise h) hq] at this
    exact this
  refine ⟨hr, ?_⟩
  unfold lostE
  rw [if_neg (by rw [hr]; decide)]
  have hs := set_at hq hp
  have hf := (find_at (right_rise hr) hs).1
  simp only at hf ⊢
  by_cases e : k = i
  · subst e
    rw [if_pos rfl] at hf ⊢
    rw [hq] at hp; cases hp
    rw [show (failed q).id = q.id from rfl] at hf
    rw [hf]
    rfl
  · rw [if_neg e] at hf ⊢
    rw [hf]
    have h0 : ¬ p.st ≠ 0 := by simp [hl p (List.mem_of_getElem? hp)]
    have h1 : ((x.ms.set i (failed q)).any fun m => m.st == 1) = true := by
      rw [List.any_eq_true]
      refine ⟨failed q, ?_, rfl⟩
      have := set_at hq hq
      rw [if_pos rfl] at this
      exact List.mem_of_getElem? this
    simp only
    rw [if_neg h0, if_pos h1]
theorem lost_live {w : World} {B i : Nat} {x : Lb} {q : Mem} (h : LOk w B x) (hB : B ≤ w.heap.size) (hn : x.n ≤ 1000000) (hr : rightB x = true) (hl : ∀ m ∈ x.ms, m.st = 0) (hg : x.g ≤ 4294967294) (hq : x.ms[i]? = some q) :
    Calls Try.prog 11 #[.agg #[.int .i64 x.a, .int .i64 x.g, .int .i64 x.m, .int .i64 x.b, .slice x.A x.n x.c], .int .i64 q.id] w (fun e w' => Nw w w' ∧ ∃ r c, e = .returned (.tuple #[.agg #[.int .i64 x.a, .int .i64 (x.g + 1), .int .i64 x.m, .int .i64 x.b, .slice (some ⟨r, 0, none⟩) x.n c], .int .i64 0]) ∧
      Own w' w.heap.size 28 3 (some ⟨r, 0, none⟩) x.n c (fl mc (x.ms.set i (failed q)))) := by
  refine (lost_any (id := q.id) h hB hn).mono ?_
  rintro e w' ⟨k, hp⟩
  rw [lostE_live hr hl hg hq, lostM_at (right_rise hr) hq] at hp
  rcases hp with ⟨h0, _⟩ | ⟨_, A, n, c, rfl, p⟩
  · exact absurd rfl h0
  have hnn : n = x.n := by
    have h1 := p.lenL mc_len (by decide)
    rw [List.length_set] at h1
    rw [← h1]; exact h.len
  subst hnn
  have := (right_parts hr).1
  obtain ⟨r, rfl, _⟩ := p.some_ (by omega)
  exact ⟨k, r, c, rfl, p⟩
theorem lost_fail {w : World} {B : Nat} {x : Lb} {id v : Int} (h : LOk w B x) (hB : B ≤ w.heap.size) (hn : x.n ≤ 1000000) (he : lostE x id = v) (hv : v ≠ 0) :
    Calls Try.prog 11 #[.agg #[.int .i64 x.a, .int .i64 x.g, .int .i64 x.m, .int .i64 x.b, .slice x.A x.n x.c], .int .i64 id] w (fun e w' => e = .returned (.tuple #[.agg #[.int .i64 0, .int .i64 0, .int .i64 0, .int .i64 0, .slice none 0 0], .int .i64 v]) ∧ Nw w w') := by
  refine (lost_any (id := id) h hB hn).mono ?_
  rintro e w' ⟨k, hp⟩
  rw [he] at hp
  rcases hp with ⟨_, rfl⟩ | ⟨h0, _⟩
  · exact ⟨rfl, k⟩
  · exact absurd h0 hv
end Go.Proofs.Ytkkkhkkjdjnfhaa


/- Plain laws: what Choose answers to the next configuration's labels, two of which are not there. -/
namespace Go.Proofs.Ytkkkhkkjdjnfhaa
open Go.RowKit Go.BW

/-- one place alone -/
theorem picks_one {ms : List Mem} {k : Nat} {q : Mem} (h : ms[k]? = some q) : picks (fun t => t == k) ms ms.length = [q] := by
  have key : ∀ n, n ≤ ms.length → picks (fun t => t == k) ms n = if k < n then [q] else [] := by
    intro n
    induction n with
    | zero => intro _; rw [picks_zero]; rfl
    | succ n ih =>
      intro hn
      have hx : ms[n]? = some ms[n] := List.getElem?_eq_getElem (by omega)
      rw [picks_step hx, ih (by omega)]
      show (if k < n then [q] else []) ++ (if (n == k) = true then [ms[n]] else []) = if k < n + 1 then [q] else []
      by_cases e : n = k
      · subst e
        rw [hx] at h; injection h with h
        simp [h]
      · have e2 : ¬ (n == k) = true := by simpa using e
        rw [if_neg e2, List.append_nil]
        by_cases l : k < n
        · rw [if_pos l, if_pos (show k < n + 1 by omega)]
        · rw [if_neg l, if_neg (show ¬ k < n + 1 by omega)]
  rw [key _ (Nat.le_refl _), if_pos (List.getElem?_eq_some_iff.1 h).1]
/-- neither of two places -/
def two (i k t : Nat) : Bool := t != i && t != k
theorem picks_ne {ms : List Mem} {P : Nat → Bool} {t : Nat} (ht : t < ms.length) (hP : P t = true) : picks P ms ms.length ≠ [] := by
  intro e
  have : ms[t] ∈ picks P ms ms.length := mem_picks.2 ⟨t, List.getElem?_eq_getElem ht, hP⟩
  rw [e] at this
  simp at this
theorem choose_failed {x : Lb} {ms : List Mem} {i k : Nat} {q p : Mem} (hr : ms.Pairwise (fun p q => p.id < q.id)) (hn : 3 ≤ ms.length) (hl : ∀ m ∈ ms, m.st = 0) (hq : ms[i]? = some q) (hp : ms[k]? = some p) (hx : x.ms = ms.set i (failed q)) (h : rightB x = true) (hik : k ≠ i) :
    let all := (picks (two i k) ms ms.length).map (withM x)
    all ≠ [] ∧ all.filter rightB = all ∧ (∃ z, maxOf all = withM x z) ∧ (∀ z, missL all (withM x z) = [p.id]) ∧ chooseE all = 0 := by
  intro all
  have h0 : picks (two i k) ms ms.length ≠ [] := by
    obtain ⟨t, ht, h1, h2⟩ : ∃ t, t < 3 ∧ t ≠ i ∧ t ≠ k := by
      by_cases a : 0 ≠ i ∧ 0 ≠ k
      · exact ⟨0, by omega, a.1, a.2⟩
      by_cases b : 1 ≠ i ∧ 1 ≠ k
      · exact ⟨1, by omega, b.1, b.2⟩
      exact ⟨2, by omega, by omega, by omega⟩
    exact picks_ne (t := t) (by omega) (by unfold two; simp [h1, h2])
  obtain ⟨h1, ⟨z, _, h2⟩, h3, h4⟩ := choose_plain (sel := picks (two i k) ms ms.length) h (fun u hu => by
    obtain ⟨t, ht, hP⟩ := mem_picks.1 hu
    unfold two at hP
    simp only [Bool.and_eq_true, bne_iff_ne] at hP
    have := set_at hq ht
    rw [if_neg hP.1, ← hx] at this
    exact ⟨u, List.mem_of_getElem? this, rfl⟩) h0
  have hf : x.ms.filter (fun m => m.st == 0 && !(picks (two i k) ms ms.length).any (fun q => q.id == m.id)) = [p] := by
    have hpk : x.ms[k]? = some p := by rw [hx, set_at hq hp, if_neg hik]
    rw [← picks_one hpk]
    refine filter_picks _ _ _ fun t m ht => ?_
    have htl : t < ms.length := by have := (List.getElem?_eq_some_iff.1 ht).1; rw [hx, List.length_set] at this; exact this
    have hm0 : ms[t]? = some ms[t] := List.getElem?_eq_getElem htl
    have hs := set_at hq hm0
    rw [← hx, ht] at hs
    injection hs with hs
    by_cases e : t = i
    · rw [if_pos e] at hs
      rw [hs]
      have : (t == k) = false := by simp; omega
      rw [this]
      rfl
    · rw [if_neg e] at hs
      rw [← hs] at hm0
      rw [hl m (List.mem_of_getElem? hm0)]
      simp only [beq_self_eq_true, Bool.true_and]
      by_cases e2 : t = k
      · have : (t == k) = true := by simpa using e2
        rw [this, Bool.not_eq_eq_eq_not, Bool.not_true, List.any_eq_false]
        intro u hu he
        obtain ⟨t', ht', hP⟩ := mem_picks.1 hu
        have := id_inj hr ht' hm0 (by simpa using he)
        unfold two at hP
        simp only [Bool.and_eq_true, bne_iff_ne] at hP
        omega
      · have : (t == k) = false := by simpa using e2
        rw [this, Bool.not_eq_eq_eq_not, Bool.not_false, List.any_eq_true]
        exact ⟨m, mem_picks.2 ⟨t, hm0, by unfold two; simp [e, e2]⟩, by simp⟩
  have hm : ∀ z, missL all (withM x z) = [p.id] := fun z => by rw [show missL all (withM x z) = _ from h4 z, hf]; rfl
  have hne : all ≠ [] := by intro e; exact h0 (by simpa using List.map_eq_nil_iff.1 e)
  refine ⟨hne, h1, ⟨z, h2⟩, hm, ?_⟩
  unfold chooseE
  simp only
  rw [h1, if_neg hne, h2, h3 z, hm z]
  rfl
end Go.Proofs.Ytkkkhkkjdjnfhaa

