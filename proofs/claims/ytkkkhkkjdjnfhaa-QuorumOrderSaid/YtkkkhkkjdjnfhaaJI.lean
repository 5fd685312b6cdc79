/- Plain laws: what Choose answers to labels of two configurations, one behind the other. -/
import Derived.Test.YtkkkhkkjdjnfhaaJH
set_option linter.unusedVariables false
set_option linter.unusedSimpArgs false
/- Plain laws: what Choose answers to labels of two configurations, one behind the other. -/
namespace Go.Proofs.Ytkkkhkkjdjnfhaa
open Go.RowKit Go.BW

theorem newer_ge (b y : Lb) : b.g ≤ (newer b y).g ∧ y.g ≤ (newer b y).g := by
  unfold newer
  split <;> constructor <;> omega
theorem fold_ge : ∀ (l : List Lb) (b : Lb), b.g ≤ (l.foldl newer b).g ∧ ∀ x ∈ l, x.g ≤ (l.foldl newer b).g
  | [], _ => ⟨Int.le_refl _, fun x hx => by simp at hx⟩
  | y :: l, b => by
    rw [List.foldl_cons]
    obtain ⟨h1, h2⟩ := fold_ge l (newer b y)
    obtain ⟨h3, h4⟩ := newer_ge b y
    refine ⟨Int.le_trans h3 h1, fun x hx => ?_⟩
    rcases List.mem_cons.1 hx with rfl | hx
    · exact Int.le_trans h4 h1
    · exact h2 x hx
theorem maxOf_ge {l : List Lb} {x : Lb} (h : x ∈ l) : x.g ≤ (maxOf l).g := by
  cases l with
  | nil => simp at h
  | cons y l =>
    obtain ⟨h1, h2⟩ := fold_ge l y
    rcases List.mem_cons.1 h with rfl | h
    · exact h1
    · exact h2 x h
def ne1 (i t : Nat) : Bool := t != i
/-- labels of the first i members but one: of one configuration or of the next; some: one of the next is there -/
structure Mixed (x y : Lb) (ms : List Mem) (i1 j i : Nat) (some : Bool) (ls : List Lb) : Prop where
  el : ∀ z ∈ ls, (∃ q ∈ ms, z = withM x q) ∨ (∃ q ∈ ms, z = withM y q)
  id : ls.map (·.m) = (picks (ne1 i1) ms i).map (·.id)
  new : some = true → ∃ q ∈ ms, withM y q ∈ ls
  old : some = false → ∀ t, t < i → t ≠ i1 → t + 2 < j
section
variable {x y : Lb} {ms : List Mem} {i1 j i : Nat} {some : Bool} {ls : List Lb} {q : Mem}
theorem Mixed.zero : Mixed x y ms i1 j 0 false [] := ⟨fun z hz => by simp at hz, by rw [picks_zero]; rfl, fun h => by simp at h, fun _ t ht => by omega⟩
theorem Mixed.skip (h : Mixed x y ms i1 j i some ls) (hq : ms[i]? = Option.some q) (e : i = i1) : Mixed x y ms i1 j (i + 1) some ls := by
  refine ⟨h.el, ?_, h.new, fun hs t ht hne => h.old hs t (by omega) hne⟩
  rw [picks_step hq, h.id, if_neg (by unfold ne1; simp [e]), List.append_nil]
theorem Mixed.keep (h : Mixed x y ms i1 j i some ls) (hq : ms[i]? = Option.some q) (e : i ≠ i1) (ho : some = false → i + 2 < j) : Mixed x y ms i1 j (i + 1) some (ls ++ [withM x q]) := by
  refine ⟨fun z hz => ?_, ?_, fun hs => ?_, fun hs t ht hne => ?_⟩
  · rcases List.mem_append.1 hz with hz | hz
    · exact h.el z hz
    · rw [List.mem_singleton] at hz
      exact .inl ⟨q, List.mem_of_getElem? hq, hz⟩
  · rw [picks_step hq, List.map_append, h.id, if_pos (by unfold ne1; simp [e]), List.map_append]; rfl
  · obtain ⟨p, hp, hm⟩ := h.new hs
    exact ⟨p, hp, List.mem_append_left _ hm⟩
  · rcases Nat.lt_or_ge t i with h1 | h1
    · exact h.old hs t h1 hne
    · have := ho hs; omega
theorem Mixed.take (h : Mixed x y ms i1 j i some ls) (hq : ms[i]? = Option.some q) (e : i ≠ i1) : Mixed x y ms i1 j (i + 1) true (ls ++ [withM y q]) := by
  refine ⟨fun z hz => ?_, ?_, fun _ => ⟨q, List.mem_of_getElem? hq, by simp⟩, fun hs => by simp at hs⟩
  · rcases List.mem_append.1 hz with hz | hz
    · exact h.el z hz
    · rw [List.mem_singleton] at hz
      exact .inr ⟨q, List.mem_of_getElem? hq, hz⟩
  · rw [picks_step hq, List.map_append, h.id, if_pos (by unfold ne1; simp [e]), List.map_append]; rfl
theorem Mixed.len (h : Mixed x y ms i1 j i some ls) : ls.length ≤ i := by
  have := congrArg List.length h.id
  rw [List.length_map, List.length_map] at this
  rw [this]; exact picks_len ..
/-- at the end one of the next is there -/
theorem Mixed.some_ (h : Mixed x y ms i1 j j some ls) (hj : 3 ≤ j) : some = true := by
  rcases some with _ | _
  · have h1 := h.old rfl (j - 1) (by omega)
    have h2 := h.old rfl (j - 2) (by omega)
    by_cases e : j - 1 = i1
    · have := h2 (by omega); omega
    · have := h1 e; omega
  · rfl
end
theorem choose_mixed {x y : Lb} {ms : List Mem} {i1 j : Nat} {sm : Bool} {ls : List Lb} {q1 : Mem} (h : Mixed x y ms i1 j j sm ls) (hj : 3 ≤ j) (hlen : ms.length = j) (hq1 : ms[i1]? = some q1)
    (hx : rightB x = true) (hy : rightB y = true) (hxm : x.ms = ms) (hym : y.ms = ms.set i1 (failed q1)) (hg : y.g = x.g + 1) (ha : x.a = y.a) :
    ls.filter rightB = ls ∧ (∃ q, maxOf ls = withM y q) ∧ (∀ q, missL ls (withM y q) = []) ∧ chooseE ls = 0 := by
  have hids : ∀ q ∈ ms, ∃ p ∈ y.ms, p.id = q.id := by
    intro q hq
    obtain ⟨t, ht⟩ := List.mem_iff_getElem?.1 hq
    have := set_at hq1 ht
    rw [← hym] at this
    refine ⟨_, List.mem_of_getElem? this, ?_⟩
    split
    · rename_i e
      subst e
      rw [hq1] at ht; injection ht with ht
      rw [← ht]; rfl
    · rfl
  have h1 : ls.filter rightB = ls := by
    rw [List.filter_eq_self]
    intro z hz
    rcases h.el z hz with ⟨q, hq, rfl⟩ | ⟨q, hq, rfl⟩
    · exact withM_right hx ⟨q, by rw [hxm]; exact hq, rfl⟩
    · exact withM_right hy (hids q hq)
  obtain ⟨q0, hq0, hm0⟩ := h.new (h.some_ hj)
  have hne : ls ≠ [] := by intro e; rw [e] at hm0; simp at hm0
  have h2 : ∃ q, maxOf ls = withM y q := by
    have hge := maxOf_ge hm0
    rcases h.el _ (maxOf_mem hne) with ⟨q, _, he⟩ | ⟨q, _, he⟩
    · rw [he] at hge
      have e1 : (withM y q0).g = y.g := rfl
      have e2 : (withM x q).g = x.g := rfl
      omega
    · exact ⟨q, he⟩
  have h3 : ∀ q, ls.any (clash (withM y q)) = false := by
    intro q
    rw [List.any_eq_false]
    intro z hz
    rcases h.el z hz with ⟨p, _, rfl⟩ | ⟨p, _, rfl⟩
    · unfold clash
      have e1 : (withM y q).g = y.g := rfl
      have e2 : (withM x p).g = x.g := rfl
      have : ((withM x p).g == (withM y q).g) = false := by rw [e1, e2]; simp; omega
      rw [this]; simp
    · unfold clash
      rw [sameB_withM]
      simp
  have h4 : ∀ q, missL ls (withM y q) = [] := by
    intro q
    unfold missL
    have : (withM y q).ms.filter (missB ls (withM y q).a) = [] := by
      rw [List.filter_eq_nil_iff]
      intro m hm
      have hm' : m ∈ ms.set i1 (failed q1) := by rw [← hym]; exact hm
      obtain ⟨t, ht⟩ := List.mem_iff_getElem?.1 hm'
      have htl : t < ms.length := by have := (List.getElem?_eq_some_iff.1 ht).1; rwa [List.length_set] at this
      have hm0 : ms[t]? = some ms[t] := List.getElem?_eq_getElem htl
      have hs := set_at hq1 hm0
      rw [ht] at hs
      injection hs with hs
      unfold missB
      by_cases e : t = i1
      · rw [if_pos e] at hs
        rw [hs]; simp [failed]
      · rw [if_neg e] at hs
        have hid : m.id ∈ ls.map (·.m) := by
          rw [h.id, List.mem_map]
          refine ⟨m, ?_, rfl⟩
          rw [← hlen]
          exact mem_picks.2 ⟨t, by rw [hm0, hs], by unfold ne1; simp [e]⟩
        obtain ⟨z, hz, hzm⟩ := List.mem_map.1 hid
        have : ls.any (ofM m.id (withM y q).a) = true := by
          rw [List.any_eq_true]
          refine ⟨z, hz, ?_⟩
          unfold ofM
          rw [hzm]
          rcases h.el z hz with ⟨p, _, rfl⟩ | ⟨p, _, rfl⟩
          · simp [withM, ha]
          · simp [withM]
        rw [this]; simp
    rw [this]; rfl
  refine ⟨h1, h2, h4, ?_⟩
  obtain ⟨z, h2⟩ := h2
  unfold chooseE
  simp only
  rw [h1, if_neg hne, h2, h3 z, h4 z]
  rfl
end Go.Proofs.Ytkkkhkkjdjnfhaa


/- Plain laws: what Choose answers does not hang on the order of the labels, but for whose label it tells; rows of labels of the call's own. -/
namespace Go.Proofs.Ytkkkhkkjdjnfhaa
open Go.RowKit Go.BW

/-- a label without where its members lie -/
def core (x : Lb) : Lb := ⟨x.a, x.g, x.m, x.b, none, x.n, 0, x.ms⟩
theorem right_core (x : Lb) : rightB (core x) = rightB x := rfl
theorem same_core (x y : Lb) : sameB (core x) (core y) = sameB x y := rfl
theorem newer_core (x y : Lb) : newer (core x) (core y) = core (newer x y) := by
  unfold newer core
  simp only
  split <;> rfl
theorem max_core (l : List Lb) : maxOf (l.map core) = core (maxOf l) := by
  cases l with
  | nil => rfl
  | cons x l =>
    show (l.map core).foldl newer (core x) = core (l.foldl newer x)
    induction l generalizing x with
    | nil => rfl
    | cons y l ih => rw [List.map_cons, List.foldl_cons, newer_core, ih, List.foldl_cons]
theorem filter_core (l : List Lb) : (l.map core).filter rightB = (l.filter rightB).map core := by
  rw [List.filter_map]; rfl
theorem any_clash_core (l : List Lb) (y : Lb) : (l.map core).any (clash (core y)) = l.any (clash y) := by
  rw [List.any_map]; rfl
theorem miss_core (l : List Lb) (y : Lb) : missL (l.map core) (core y) = missL l y := by
  unfold missL
  have : missB (l.map core) (core y).a = missB l y.a := by
    funext m
    unfold missB
    rw [List.any_map]
    rfl
  rw [this]
  rfl
theorem chooseE_core (l : List Lb) : chooseE (l.map core) = chooseE l := by
  unfold chooseE
  simp only [filter_core, max_core, any_clash_core, miss_core, List.map_eq_nil_iff]
/-- what Choose answers beside the errno: the label's content, and who is missing -/
def pickL (ls : List Lb) : Lb := if chooseE ls = 0 then maxOf (ls.filter rightB) else l0
def missOf (ls : List Lb) : List Int := if chooseE ls = 0 then missL (ls.filter rightB) (maxOf (ls.filter rightB)) else []
theorem sameB_iff {x y : Lb} : sameB x y = true ↔ x.a = y.a ∧ x.g = y.g ∧ x.b = y.b ∧ x.ms = y.ms := by
  unfold sameB eqM
  simp [and_assoc]
theorem clash_same {y z : Lb} (h : sameB y z = true) (x : Lb) : clash y x = clash z x := by
  obtain ⟨h1, h2, h3, h4⟩ := sameB_iff.1 h
  unfold clash
  rw [h2]
  congr 2
  unfold sameB
  rw [h1, h2, h3, h4]
theorem missL_same {l : List Lb} {y z : Lb} (h : sameB y z = true) : missL l y = missL l z := by
  obtain ⟨h1, h2, h3, h4⟩ := sameB_iff.1 h
  unfold missL
  rw [h1, h4]
theorem missL_perm {l l' : List Lb} {y : Lb} (h : ∀ x, x ∈ l ↔ x ∈ l') : missL l y = missL l' y := by
  unfold missL
  have : missB l y.a = missB l' y.a := by
    funext m
    unfold missB
    congr 2
    rw [Bool.eq_iff_iff, List.any_eq_true, List.any_eq_true]
    constructor
    · rintro ⟨x, hx, hp⟩; exact ⟨x, (h x).1 hx, hp⟩
    · rintro ⟨x, hx, hp⟩; exact ⟨x, (h x).2 hx, hp⟩
  rw [this]
theorem any_perm {l l' : List Lb} (p : Lb → Bool) (h : ∀ x, x ∈ l ↔ x ∈ l') : l.any p = l'.any p := by
  rw [Bool.eq_iff_iff, List.any_eq_true, List.any_eq_true]
  constructor
  · rintro ⟨x, hx, hp⟩; exact ⟨x, (h x).1 hx, hp⟩
  · rintro ⟨x, hx, hp⟩; exact ⟨x, (h x).2 hx, hp⟩
theorem sameB_comm (x y : Lb) : sameB x y = sameB y x := by
  rw [Bool.eq_iff_iff, sameB_iff, sameB_iff]
  constructor <;> (rintro ⟨h1, h2, h3, h4⟩; exact ⟨h1.symm, h2.symm, h3.symm, h4.symm⟩)
/-- right labels in two orders -/
theorem choose_both {r r' : List Lb} (h : ∀ x, x ∈ r ↔ x ∈ r') (hne : r ≠ []) :
    r.any (clash (maxOf r)) = r'.any (clash (maxOf r')) ∧ (r.any (clash (maxOf r)) = false → sameB (maxOf r) (maxOf r') = true) := by
  have hne' : r' ≠ [] := by
    obtain ⟨x, hx⟩ := List.exists_mem_of_ne_nil _ hne
    exact List.ne_nil_of_mem ((h x).1 hx)
  have m1 := maxOf_mem hne; have m2 := maxOf_mem hne'
  have g1 : (maxOf r).g = (maxOf r').g := by
    have a1 := maxOf_ge ((h _).1 m1); have a2 := maxOf_ge ((h _).2 m2)
    omega
  have k1 : r.any (clash (maxOf r)) = false → sameB (maxOf r) (maxOf r') = true := by
    intro h1
    rw [List.any_eq_false] at h1
    have := h1 _ ((h _).2 m2)
    unfold clash at this
    rw [show ((maxOf r').g == (maxOf r).g) = true from by rw [g1]; simp] at this
    rw [sameB_comm]
    simpa using this
  have k2 : r'.any (clash (maxOf r')) = false → sameB (maxOf r) (maxOf r') = true := by
    intro h1
    rw [List.any_eq_false] at h1
    have := h1 _ ((h _).1 m1)
    unfold clash at this
    rw [show ((maxOf r).g == (maxOf r').g) = true from by rw [g1]; simp] at this
    simpa using this
  refine ⟨?_, k1⟩
  rcases e1 : r.any (clash (maxOf r)) with _ | _
  · have := k1 e1
    rw [any_perm _ h] at e1
    rw [show clash (maxOf r) = clash (maxOf r') from funext (clash_same this)] at e1
    exact e1.symm
  · rcases e2 : r'.any (clash (maxOf r')) with _ | _
    · have := k2 e2
      rw [← any_perm _ h, ← show clash (maxOf r) = clash (maxOf r') from funext (clash_same this), e1] at e2
      cases e2
    · rfl
/-- the same labels in another order -/
theorem choose_order {la lb : List Lb} (h : lb.map core = (la.map core).reverse) :
    chooseE la = chooseE lb ∧ missOf la = missOf lb ∧ (pickL la).a = (pickL lb).a ∧ (pickL la).g = (pickL lb).g ∧ (pickL la).b = (pickL lb).b ∧ (pickL la).ms = (pickL lb).ms := by
  obtain ⟨r, hr⟩ : ∃ r, (la.map core).filter rightB = r := ⟨_, rfl⟩
  obtain ⟨r', hr'⟩ : ∃ r', (lb.map core).filter rightB = r' := ⟨_, rfl⟩
  have hm : ∀ x, x ∈ r ↔ x ∈ r' := by
    intro x
    rw [← hr, ← hr', h, List.filter_reverse, List.mem_reverse]
  have c1 : maxOf r = core (maxOf (la.filter rightB)) := by rw [← hr, filter_core, max_core]
  have c2 : maxOf r' = core (maxOf (lb.filter rightB)) := by rw [← hr', filter_core, max_core]
  have d1 : missL r (maxOf r) = missL (la.filter rightB) (maxOf (la.filter rightB)) := by rw [c1, ← hr, filter_core, miss_core]
  have d2 : missL r' (maxOf r') = missL (lb.filter rightB) (maxOf (lb.filter rightB)) := by rw [c2, ← hr', filter_core, miss_core]
  have E1 : chooseE la = if r = [] then 8 else if r.any (clash (maxOf r)) then 2 else if 1 < (missL r (maxOf r)).length then 5 else 0 := by
    rw [← chooseE_core la]; unfold chooseE; simp only [hr]
  have E2 : chooseE lb = if r' = [] then 8 else if r'.any (clash (maxOf r')) then 2 else if 1 < (missL r' (maxOf r')).length then 5 else 0 := by
    rw [← chooseE_core lb]; unfold chooseE; simp only [hr']
  by_cases h0 : r = []
  · have h0' : r' = [] := by
      rw [List.eq_nil_iff_forall_not_mem]
      intro x hx
      have := (hm x).2 hx
      rw [h0] at this; simp at this
    rw [if_pos h0] at E1
    rw [if_pos h0'] at E2
    have p1 : chooseE la ≠ 0 := by omega
    have p2 : chooseE lb ≠ 0 := by omega
    unfold missOf pickL
    rw [if_neg p1, if_neg p2, if_neg p1, if_neg p2]
    exact ⟨E1.trans E2.symm, rfl, rfl, rfl, rfl, rfl⟩
  · have h0' : r' ≠ [] := by
      obtain ⟨x, hx⟩ := List.exists_mem_of_ne_nil _ h0
      exact List.ne_nil_of_mem ((hm x).1 hx)
    rw [if_neg h0] at E1
    rw [if_neg h0'] at E2
    obtain ⟨t1, t2⟩ := choose_both hm h0
    rw [← t1] at E2
    by_cases h1 : r.any (clash (maxOf r)) = true
    · rw [if_pos h1] at E1 E2
      have p1 : chooseE la ≠ 0 := by omega
      have p2 : chooseE lb ≠ 0 := by omega
      unfold missOf pickL
      rw [if_neg p1, if_neg p2, if_neg p1, if_neg p2]
      exact ⟨E1.trans E2.symm, rfl, rfl, rfl, rfl, rfl⟩
    · have hs := t2 (by simpa using h1)
      rw [if_neg h1] at E1 E2
      have hM : missL r (maxOf r) = missL r' (maxOf r') := by rw [missL_same hs, missL_perm hm]
      rw [← hM] at E2
      have EE := E1.trans E2.symm
      refine ⟨EE, ?_⟩
      unfold missOf pickL
      rw [← EE, ← d1, ← d2, hM]
      rw [c1, c2] at hs
      rw [same_core] at hs
      obtain ⟨k1, k2, k3, k4⟩ := sameB_iff.1 hs
      split
      · exact ⟨rfl, k1, k2, k3, k4⟩
      · exact ⟨rfl, rfl, rfl, rfl, rfl⟩
/-- Choose's contract without cases -/
theorem choose_flat {w : World} {B n c : Nat} {A : Option Addr} {ls : List Lb} (hr : Rd w B 5 A n (fl lc ls)) (hok : ∀ x ∈ ls, LOk w B x) (hB : B ≤ w.heap.size) (hn : n ≤ 1000000) (hms : ∀ x ∈ ls, x.n ≤ 1000000) :
    Calls Try.prog 12 #[.slice A n c] w (fun e w' => Nw w w' ∧ ∃ A n c M k d, e = .returned (.tuple #[.agg #[.int .i64 (pickL ls).a, .int .i64 (pickL ls).g, .int .i64 (pickL ls).m, .int .i64 (pickL ls).b, .slice A n c], .slice M k d, .int .i64 (chooseE ls)]) ∧
      Own w' w.heap.size 28 3 A n c (fl mc (pickL ls).ms) ∧ Own w' w.heap.size 3 1 M k d ((missOf ls).map iv)) := by
  refine (choose_any hr hok hB hn hms).mono ?_
  rintro e w' ⟨k, hp⟩
  refine ⟨k, ?_⟩
  unfold pickL missOf
  rcases hp with ⟨h, rfl⟩ | ⟨h, A, n, c, M, k, d, rfl, o1, o2⟩
  · rw [if_neg h, if_neg h]
    exact ⟨none, 0, 0, none, 0, 0, rfl, Own.nil, Own.nil⟩
  · rw [if_pos h, if_pos h, h]
    exact ⟨A, n, c, M, k, d, rfl, o1, o2⟩
/-- a row of labels of the call's own, the members of each likewise -/
structure Rows (w : World) (base : Nat) (L : Option Addr) (n c : Nat) (ls : List Lb) : Prop where
  row : Own w base 24 5 L n c (fl lc ls)
  mem : ∀ x ∈ ls, Own w base 28 3 x.A x.n x.c (fl mc x.ms)
  few : ∀ x ∈ ls, x.n ≤ 20
section
variable {w w' : World} {base n c : Nat} {L : Option Addr} {ls : List Lb}
theorem Rows.nw (h : Rows w base L n c ls) (k : Nw w w') : Rows w' base L n c ls := ⟨h.row.nw k, fun x hx => (h.mem x hx).nw k, h.few⟩
theorem Rows.nil : Rows w base Option.none 0 0 [] := ⟨Own.nil, fun x hx => by simp at hx, fun x hx => by simp at hx⟩
theorem Rows.len (h : Rows w base L n c ls) : ls.length = n := h.row.lenL lc_len (by decide)
theorem Rows.ok (h : Rows w base L n c ls) : ∀ x ∈ ls, LOk w w.heap.size x := fun x hx => ⟨(h.mem x hx).rd, (h.mem x hx).cap.1, (h.mem x hx).cap.2⟩
/-- .. when another row of labels has grown -/
theorem Rows.other {b' n' c' : Nat} {L' : Option Addr} {xs : List Value} (h : Rows w base L n c ls) (ho : Own w b' 24 5 L' n' c' xs) (k : w.grownBy w' (Value.slice L' n' c').ownBlock) (hne : ∀ r, (Value.slice L' n' c').ownBlock = some r → (Value.slice L n c).ownBlock ≠ some r) : Rows w' base L n c ls :=
  ⟨h.row.kept k hne, fun x hx => (h.mem x hx).kept k (own_apart ho (h.mem x hx) (by decide)), h.few⟩
end
/-- 'append([]T{u}, b...)' -/
theorem wpList_prepend {P : Program} {t e : TypeId} {z : Value} {size bytes : Nat} {ops : Array Oper} {rest : List Oper} {o : Oper} {a : Act} {Q : Exit → Act → World → Prop} {w0 : World} {cs : List Value} (T : El P t e z size bytes) (s x : Operand) (hop : o.op = .call { callee := .builtin .append, args := #[s, x], argTypes := #[t, t] }) (hw : Region.wanted o (yielded ops a.tmps) = true)
    (hs : a.eval s = .slice (some ⟨w0.heap.size, 0, none⟩) 1 1) {X : Option Addr} {m d B : Nat} {news : List Value} (hx : a.eval x = .slice X m d) (hr : Rd w0 B size X m news) (hB : B ≤ w0.heap.size) (hcs : cs.length = size) (h1 : ∀ u ∈ news, u.oneCell' = true)
    (hsm : (1 + m) * bytes ≤ 140737488355328 ∧ 1 + m ≤ maxLen)
    (hK : ∀ A' c' w', Own w' w0.heap.size e size A' (1 + m) c' (cs ++ news) → Nw w0 w' → (∀ g, (Value.slice A' (1 + m) c').ownBlock = some g → w0.heap.size ≤ g) → wpList P ops Q rest (a.put o.dst (.slice A' (1 + m) c')) w') : wpList P ops Q (o :: rest) a (w0.alloc (.cells cs.toArray e)) := by
  have hown : Own (w0.alloc (.cells cs.toArray e)) w0.heap.size e size (some ⟨w0.heap.size, 0, none⟩) 1 1 cs := (Obj1.new w0 e cs.toArray).ownN (by simpa using hcs) (Nat.le_refl _) (by unfold maxLen; omega)
  refine wpList_app_own T s x hop hw hs hx hown (hr.nw (World.grownBy_alloc w0 _ none) hB) h1 hsm (by simp) fun A' c' w' h2 h3 h4 => hK A' c' w' h2 ?_ h2.blk
  exact nw_of_gb (World.grownBy_alloc w0 _ none) h3 (by intro g hg; simp [Value.ownBlock] at hg; omega)
/-- a label cut to twenty members -/
def cut20 (x : Lb) : Lb := ⟨x.a, x.g, x.m, x.b, none, (x.ms.take 20).length, 0, x.ms.take 20⟩
end Go.Proofs.Ytkkkhkkjdjnfhaa

