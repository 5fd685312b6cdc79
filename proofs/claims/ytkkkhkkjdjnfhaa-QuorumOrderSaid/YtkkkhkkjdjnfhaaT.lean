/- Plain laws: what Choose answers to labels of two configurations, one behind the other. -/
import Derived.Test.YtkkkhkkjdjnfhaaR
namespace Go.Proofs.Ytkkkhkkjdjnfhaa
open Go.RowKit Go.BW

theorem newer_ge (b y : Lb) : b.g ≤ (newer b y).g ∧ y.g ≤ (newer b y).g := by
  unfold newer
  split <;> constructor <;> omega
theorem fold_ge : ∀ (l : List Lb) (b : Lb), b.g ≤ (l.foldl newer b).g ∧ ∀ x ∈ l, x.g ≤ (l.foldl newer b).g
  | [], _ => ⟨Int.le_refl _, fun x hx => by simp at hx⟩
  | y :: l, b => by
    rw [List.foldl_cons]
    obtain ⟨h1, h2⟩ := fold_ge l (newer b y)
    obtain ⟨h3, h4⟩ := newer_ge b y
    refine ⟨Int.le_trans h3 h1, fun x hx => ?_⟩
    rcases List.mem_cons.1 hx with rfl | hx
    · exact Int.le_trans h4 h1
    · exact h2 x hx
theorem maxOf_ge {l : List Lb} {x : Lb} (h : x ∈ l) : x.g ≤ (maxOf l).g := by
  cases l with
  | nil => simp at h
  | cons y l =>
    obtain ⟨h1, h2⟩ := fold_ge l y
    rcases List.mem_cons.1 h with rfl | h
    · exact h1
    · exact h2 x h
def ne1 (i t : Nat) : Bool := t != i
/-- labels of the first i members but one: of one configuration or of the next; some: one of the next is there -/
structure Mixed (x y : Lb) (ms : List Mem) (i1 j i : Nat) (some : Bool) (ls : List Lb) : Prop where
  el : ∀ z ∈ ls, (∃ q ∈ ms, z = withM x q) ∨ (∃ q ∈ ms, z = withM y q)
  id : ls.map (·.m) = (picks (ne1 i1) ms i).map (·.id)
  new : some = true → ∃ q ∈ ms, withM y q ∈ ls
  old : some = false → ∀ t, t < i → t ≠ i1 → t + 2 < j
section
variable {x y : Lb} {ms : List Mem} {i1 j i : Nat} {some : Bool} {ls : List Lb} {q : Mem}
theorem Mixed.zero : Mixed x y ms i1 j 0 false [] := ⟨fun z hz => by simp at hz, by rw [picks_zero]; rfl, fun h => by simp at h, fun _ t ht => by omega⟩
theorem Mixed.skip (h : Mixed x y ms i1 j i some ls) (hq : ms[i]? = Option.some q) (e : i = i1) : Mixed x y ms i1 j (i + 1) some ls := by
  refine ⟨h.el, ?_, h.new, fun hs t ht hne => h.old hs t (by omega) hne⟩
  rw [picks_step hq, h.id, if_neg (by unfold ne1; simp [e]), List.append_nil]
theorem Mixed.keep (h : Mixed x y ms i1 j i some ls) (hq : ms[i]? = Option.some q) (e : i ≠ i1) (ho : some = false → i + 2 < j) : Mixed x y ms i1 j (i + 1) some (ls ++ [withM x q]) := by
  refine ⟨fun z hz => ?_, ?_, fun hs => ?_, fun hs t ht hne => ?_⟩
  · rcases List.mem_append.1 hz with hz | hz
    · exact h.el z hz
    · rw [List.mem_singleton] at hz
      exact .inl ⟨q, List.mem_of_getElem? hq, hz⟩
  · rw [picks_step hq, List.map_append, h.id, if_pos (by unfold ne1; simp [e]), List.map_append]; rfl
  · obtain ⟨p, hp, hm⟩ := h.new hs
    exact ⟨p, hp, List.mem_append_left _ hm⟩
  · rcases Nat.lt_or_ge t i with h1 | h1
    · exact h.old hs t h1 hne
    · have := ho hs; omega
theorem Mixed.take (h : Mixed x y ms i1 j i some ls) (hq : ms[i]? = Option.some q) (e : i ≠ i1) : Mixed x y ms i1 j (i + 1) true (ls ++ [withM y q]) := by
  refine ⟨fun z hz => ?_, ?_, fun _ => ⟨q, List.mem_of_getElem? hq, by simp⟩, fun hs => by simp at hs⟩
  · rcases List.mem_append.1 hz with hz | hz
    · exact h.el z hz
    · rw [List.mem_singleton] at hz
      exact .inr ⟨q, List.mem_of_getElem? hq, hz⟩
  · rw [picks_step hq, List.map_append, h.id, if_pos (by unfold ne1; simp [e]), List.map_append]; rfl
theorem Mixed.len (h : Mixed x y ms i1 j i some ls) : ls.length ≤ i := by
  have := congrArg List.length h.id
  rw [List.length_map, List.length_map] at this
  rw [this]; exact picks_len ..
/-- at the end one of the next is there -/
theorem Mixed.some_ (h : Mixed x y ms i1 j j some ls) (hj : 3 ≤ j) : some = true := by
  rcases some with _ | _
  · have h1 := h.old rfl (j - 1) (by omega)
    have h2 := h.old rfl (j - 2) (by omega)
    by_cases e : j - 1 = i1
    · have := h2 (by omega); omega
    · have := h1 e; omega
  · rfl
end
theorem choose_mixed {x y : Lb} {ms : List Mem} {i1 j : Nat} {sm : Bool} {ls : List Lb} {q1 : Mem} (h : Mixed x y ms i1 j j sm ls) (hj : 3 ≤ j) (hlen : ms.length = j) (hq1 : ms[i1]? = some q1)
    (hx : rightB x = true) (hy : rightB y = true) (hxm : x.ms = ms) (hym : y.ms = ms.set i1 (failed q1)) (hg : y.g = x.g + 1) (ha : x.a = y.a) :
    ls.filter rightB = ls ∧ (∃ q, maxOf ls = withM y q) ∧ (∀ q, missL ls (withM y q) = []) ∧ chooseE ls = 0 := by
  have hids : ∀ q ∈ ms, ∃ p ∈ y.ms, p.id = q.id := by
    intro q hq
    obtain ⟨t, ht⟩ := List.mem_iff_getElem?.1 hq
    have := set_at hq1 ht
    rw [← hym] at this
    refine ⟨_, List.mem_of_getElem? this, ?_⟩
    split
    · rename_i e
      subst e
      rw [hq1] at ht; injection ht with ht
      rw [← ht]; rfl
    · rfl
  have h1 : ls.filter rightB = ls := by
    rw [List.filter_eq_self]
    intro z hz
    rcases h.el z hz with ⟨q, hq, rfl⟩ | ⟨q, hq, rfl⟩
    · exact withM_right hx ⟨q, by rw [hxm]; exact hq, rfl⟩
    · exact withM_right hy (hids q hq)
  obtain ⟨q0, hq0, hm0⟩ := h.new (h.some_ hj)
  have hne : ls ≠ [] := by intro e; rw [e] at hm0; simp at hm0
  have h2 : ∃ q, maxOf ls = withM y q := by
    have hge := maxOf_ge hm0
    rcases h.el _ (maxOf_mem hne) with ⟨q, _, he⟩ | ⟨q, _, he⟩
    · rw [he] at hge
      have e1 : (withM y q0).g = y.g := rfl
      have e2 : (withM x q).g = x.g := rfl
      omega
    · exact ⟨q, he⟩
  have h3 : ∀ q, ls.any (clash (withM y q)) = false := by
    intro q
    rw [List.any_eq_false]
    intro z hz
    rcases h.el z hz with ⟨p, _, rfl⟩ | ⟨p, _, rfl⟩
    · unfold clash
      have e1 : (withM y q).g = y.g := rfl
      have e2 : (withM x p).g = x.g := rfl
      have : ((withM x p).g == (withM y q).g) = false := by rw [e1, e2]; simp; omega
      rw [this]; simp
    · unfold clash
      rw [sameB_withM]
      simp
  have h4 : ∀ q, missL ls (withM y q) = [] := by
    intro q
    unfold missL
    have : (withM y q).ms.filter (missB ls (withM y q).a) = [] := by
      rw [List.filter_eq_nil_iff]
      intro m hm
      have hm' : m ∈ ms.set i1 (failed q1) := by rw [← hym]; exact hm
      obtain ⟨t, ht⟩ := List.mem_iff_getElem?.1 hm'
      have htl : t < ms.length := by have := (List.getElem?_eq_some_iff.1 ht).1; rwa [List.length_set] at this
      have hm0 : ms[t]? = some ms[t] := List.getElem?_eq_getElem htl
      have hs := set_at hq1 hm0
      rw [ht] at hs
      injection hs with hs
      unfold missB
      by_cases e : t = i1
      · rw [if_pos e] at hs
        rw [hs]; simp [failed]
      · rw [if_neg e] at hs
        have hid : m.id ∈ ls.map (·.m) := by
          rw [h.id, List.mem_map]
          refine ⟨m, ?_, rfl⟩
          rw [← hlen]
          exact mem_picks.2 ⟨t, by rw [hm0, hs], by unfold ne1; simp [e]⟩
        obtain ⟨z, hz, hzm⟩ := List.mem_map.1 hid
        have : ls.any (ofM m.id (withM y q).a) = true := by
          rw [List.any_eq_true]
          refine ⟨z, hz, ?_⟩
          unfold ofM
          rw [hzm]
          rcases h.el z hz with ⟨p, _, rfl⟩ | ⟨p, _, rfl⟩
          · simp [withM, ha]
          · simp [withM]
        rw [this]; simp
    rw [this]; rfl
  refine ⟨h1, h2, h4, ?_⟩
  obtain ⟨z, h2⟩ := h2
  unfold chooseE
  simp only
  rw [h1, if_neg hne, h2, h3 z, h4 z]
  rfl
end Go.Proofs.Ytkkkhkkjdjnfhaa

