/- Plain laws: what Choose answers to one label with some of its members' numbers. -/
import Derived.Test.YtkkkhkkjdjnfhaaM
namespace Go.Proofs.Ytkkkhkkjdjnfhaa
open Go.RowKit Go.BW

theorem good_all : ∀ (ms : List Mem) (last : Int), goodFrom last ms = true → (∀ m ∈ ms, last < m.id ∧ mayM m = true) ∧ ms.Pairwise (fun p q => p.id < q.id)
  | [], _, _ => ⟨fun m hm => by simp at hm, List.Pairwise.nil⟩
  | m :: ms, last, h => by
    unfold goodFrom at h
    simp only [Bool.and_eq_true, decide_eq_true_eq] at h
    obtain ⟨⟨h1, h2⟩, h3⟩ := h
    obtain ⟨i1, i2⟩ := good_all ms m.id h3
    refine ⟨?_, List.Pairwise.cons (fun q hq => (i1 q hq).1) i2⟩
    intro q hq
    rcases List.mem_cons.1 hq with rfl | hq
    · exact ⟨h2, h1⟩
    · exact ⟨Int.lt_trans h2 (i1 q hq).1, (i1 q hq).2⟩
theorem right_parts {x : Lb} (h : rightB x = true) : 3 ≤ x.n ∧ x.n ≤ 12 ∧ 0 ≤ x.a ∧ x.a ≤ 4294967295 ∧ 1 ≤ x.g ∧ x.g ≤ 4294967295 ∧ 1 ≤ x.b ∧ x.b ≤ 96 ∧ goodFrom (-1) x.ms = true ∧ x.ms.any (fun m => m.id == x.m) = true := by
  unfold rightB inB at h
  simp only [Bool.and_eq_true, decide_eq_true_eq] at h
  obtain ⟨⟨⟨⟨⟨⟨h1, h2⟩, h3, h4⟩, h5, h6⟩, h7, h8⟩, h9⟩, h10⟩ := h
  refine ⟨by omega, by omega, h1, h2, h3, h4, h5, h6, h9, h10⟩
theorem right_rise {x : Lb} (h : rightB x = true) : x.ms.Pairwise (fun p q => p.id < q.id) := (good_all _ _ (right_parts h).2.2.2.2.2.2.2.2.1).2
theorem right_may {x : Lb} (h : rightB x = true) : ∀ m ∈ x.ms, mayM m = true := fun m hm => ((good_all _ _ (right_parts h).2.2.2.2.2.2.2.2.1).1 m hm).2
theorem id_inj {ms : List Mem} (h : ms.Pairwise (fun p q => p.id < q.id)) {i j : Nat} {p q : Mem} (hi : ms[i]? = some p) (hj : ms[j]? = some q) (he : p.id = q.id) : i = j := by
  obtain ⟨h1, rfl⟩ := List.getElem?_eq_some_iff.1 hi
  obtain ⟨h2, rfl⟩ := List.getElem?_eq_some_iff.1 hj
  rw [List.pairwise_iff_getElem] at h
  rcases Nat.lt_trichotomy i j with hl | hl | hl
  · have := h i j h1 h2 hl; omega
  · exact hl
  · have := h j i h2 h1 hl; omega
theorem picks_all (P : Nat → Bool) (ms : List Mem) : picks P ms ms.length = (ms.zipIdx.filter (fun p => P p.2)).map (·.1) := by
  unfold picks; rw [List.take_length]
theorem mem_picks {P : Nat → Bool} {ms : List Mem} {q : Mem} : q ∈ picks P ms ms.length ↔ ∃ t, ms[t]? = some q ∧ P t = true := by
  rw [picks_all, List.mem_map]
  constructor
  · rintro ⟨⟨q', t⟩, hm, rfl⟩
    rw [List.mem_filter, List.mem_zipIdx_iff_getElem?] at hm
    exact ⟨t, hm.1, hm.2⟩
  · rintro ⟨t, h1, h2⟩
    exact ⟨(q, t), by rw [List.mem_filter, List.mem_zipIdx_iff_getElem?]; exact ⟨h1, h2⟩, rfl⟩
theorem filter_picks (f : Mem → Bool) (P : Nat → Bool) (ms : List Mem) (h : ∀ t q, ms[t]? = some q → f q = P t) : ms.filter f = picks P ms ms.length := by
  rw [picks_all]
  have e : ms = ms.zipIdx.map (·.1) := by rw [List.zipIdx_map_fst]
  conv => lhs; rw [e]
  rw [List.filter_map]
  congr 1
  refine List.filter_congr ?_
  rintro ⟨q, t⟩ hm
  rw [List.mem_zipIdx_iff_getElem?] at hm
  exact h t q hm
/-- one label with another member's number -/
theorem withM_right {x : Lb} {q : Mem} (h : rightB x = true) (hq : ∃ p ∈ x.ms, p.id = q.id) : rightB (withM x q) = true := by
  unfold rightB at h ⊢
  simp only [Bool.and_eq_true] at h ⊢
  refine ⟨h.1, ?_⟩
  rw [List.any_eq_true]
  obtain ⟨p, hp, he⟩ := hq
  exact ⟨p, hp, by simpa [withM] using he⟩
theorem sameB_withM (x : Lb) (p q : Mem) : sameB (withM x p) (withM x q) = true := by
  unfold sameB withM eqM; simp
theorem choose_plain {x : Lb} {sel : List Mem} (h : rightB x = true) (hq : ∀ q ∈ sel, ∃ p ∈ x.ms, p.id = q.id) (h0 : sel ≠ []) :
    ((sel.map (withM x)).filter rightB = sel.map (withM x)) ∧ (∃ q ∈ sel, maxOf (sel.map (withM x)) = withM x q) ∧ (∀ q, (sel.map (withM x)).any (clash (withM x q)) = false) ∧
    (∀ q, missL (sel.map (withM x)) (withM x q) = (x.ms.filter (fun m => m.st == 0 && !sel.any (fun q => q.id == m.id))).map (·.id)) := by
  refine ⟨?_, ?_, ?_, ?_⟩
  · rw [List.filter_eq_self]
    intro y hy
    obtain ⟨q, hm, rfl⟩ := List.mem_map.1 hy
    exact withM_right h (hq q hm)
  · have hm := maxOf_mem (l := sel.map (withM x)) (by simpa using h0)
    obtain ⟨q, hm, he⟩ := List.mem_map.1 hm
    exact ⟨q, hm, he.symm⟩
  · intro q
    rw [List.any_eq_false]
    intro y hy
    obtain ⟨p, _, rfl⟩ := List.mem_map.1 hy
    unfold clash
    rw [sameB_withM]
    simp
  · intro q
    unfold missL
    congr 1
    refine List.filter_congr fun m _ => ?_
    unfold missB
    congr 2
    rw [List.any_map]
    unfold ofM withM
    simp [Function.comp_def]
theorem choose_nil : chooseE [] = 8 := rfl
/-- one label, all live, of which the places that P names are there -/
theorem choose_miss {x : Lb} (P : Nat → Bool) (h : rightB x = true) (hl : ∀ m ∈ x.ms, m.st = 0) (h0 : picks (fun t => !P t) x.ms x.ms.length ≠ []) :
    let all := (picks (fun t => !P t) x.ms x.ms.length).map (withM x)
    all.filter rightB = all ∧ (∃ q, maxOf all = withM x q) ∧ (∀ q, missL all (withM x q) = (picks P x.ms x.ms.length).map (·.id)) ∧
    chooseE all = if 1 < (picks P x.ms x.ms.length).length then 5 else 0 := by
  intro all
  obtain ⟨h1, ⟨q, _, h2⟩, h3, h4⟩ := choose_plain (sel := picks (fun t => !P t) x.ms x.ms.length) h (fun q hq => by obtain ⟨t, ht, _⟩ := mem_picks.1 hq; exact ⟨q, List.mem_of_getElem? ht, rfl⟩) h0
  have hf : x.ms.filter (fun m => m.st == 0 && !(picks (fun t => !P t) x.ms x.ms.length).any (fun q => q.id == m.id)) = picks P x.ms x.ms.length := by
    refine filter_picks _ _ _ fun t m ht => ?_
    rw [hl m (List.mem_of_getElem? ht)]
    simp only [beq_self_eq_true, Bool.true_and]
    cases hP : P t
    · rw [Bool.not_eq_eq_eq_not, Bool.not_false, List.any_eq_true]
      exact ⟨m, mem_picks.2 ⟨t, ht, by simp [hP]⟩, by simp⟩
    · rw [Bool.not_eq_eq_eq_not, Bool.not_true, List.any_eq_false]
      intro q hq he
      obtain ⟨t', ht', hp'⟩ := mem_picks.1 hq
      have := id_inj (right_rise h) ht' ht (by simpa using he)
      subst this
      simp [hP] at hp'
  have hm : ∀ q, missL all (withM x q) = (picks P x.ms x.ms.length).map (·.id) := fun q => by rw [← hf]; exact h4 q
  refine ⟨h1, ⟨q, h2⟩, hm, ?_⟩
  have hne : all ≠ [] := by intro e; exact h0 (by simpa using List.map_eq_nil_iff.1 e)
  unfold chooseE
  simp only
  rw [h1, if_neg hne, h2, h3 q, hm q, List.length_map]
  rfl
end Go.Proofs.Ytkkkhkkjdjnfhaa

