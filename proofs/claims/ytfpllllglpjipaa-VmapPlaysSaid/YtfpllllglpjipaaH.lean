/- Plain laws of places: who is where, and when two are at one place. -/
import Derived.Test.YtfpllllglpjipaaG
namespace Go.Proofs.Ytfpllllglpjipaa
open Go.RowKit Go.BW

theorem look_app (a b : List (Wh × Int)) (x : Wh) : look (a ++ b) x = (look a x).or (look b x) := by
  unfold look
  rw [List.find?_append]
  cases a.find? (fun p => decide (x = p.1)) <;> simp
theorem look_held (q : List Wh) (x : Wh) : ∀ k, (look (heldN q k) x).isSome = true ↔ x.t ≠ 0 ∧ ∃ i, i < k ∧ q[i]? = some x
  | 0 => by simp [heldN, look]
  | k + 1 => by
    have ih := look_held q x k
    unfold heldN
    cases hx : q[k]? with
    | none =>
      simp only
      rw [ih]
      constructor
      · rintro ⟨h, i, hi, e⟩; exact ⟨h, i, by omega, e⟩
      · rintro ⟨h, i, hi, e⟩
        rcases Nat.lt_or_ge i k with h1 | h1
        · exact ⟨h, i, h1, e⟩
        · have : i = k := by omega
          subst this; rw [hx] at e; cases e
    | some y =>
      simp only
      by_cases h0 : y.t = 0
      · rw [if_pos h0, ih]
        constructor
        · rintro ⟨h, i, hi, e⟩; exact ⟨h, i, by omega, e⟩
        · rintro ⟨h, i, hi, e⟩
          rcases Nat.lt_or_ge i k with h1 | h1
          · exact ⟨h, i, h1, e⟩
          · have : i = k := by omega
            subst this; rw [hx] at e; injection e with e; subst e; exact absurd h0 h
      · rw [if_neg h0, look_app, Option.isSome_or, Bool.or_eq_true, ih]
        constructor
        · rintro (⟨h, i, hi, e⟩ | h)
          · exact ⟨h, i, by omega, e⟩
          · have e : x = y := by
              unfold look at h
              by_cases e : x = y
              · exact e
              · simp [e] at h
            subst e
            exact ⟨h0, k, by omega, hx⟩
        · rintro ⟨h, i, hi, e⟩
          rcases Nat.lt_or_ge i k with h1 | h1
          · exact .inl ⟨h, i, h1, e⟩
          · have : i = k := by omega
            subst this; rw [hx] at e; injection e with e; subst e
            right
            simp [look]
theorem look_val (q : List Wh) (x : Wh) (v : Int) : ∀ k, look (heldN q k) x = some v → ∃ i, i < k ∧ q[i]? = some x ∧ v = i ∧ x.t ≠ 0
  | 0, h => by simp [heldN, look] at h
  | k + 1, h => by
    unfold heldN at h
    cases hx : q[k]? with
    | none => rw [hx] at h; obtain ⟨i, a, b⟩ := look_val q x v k h; exact ⟨i, by omega, b⟩
    | some y =>
      rw [hx] at h
      simp only at h
      by_cases h0 : y.t = 0
      · rw [if_pos h0] at h; obtain ⟨i, a, b⟩ := look_val q x v k h; exact ⟨i, by omega, b⟩
      · rw [if_neg h0, look_app] at h
        cases hl : look (heldN q k) x with
        | some v' =>
          rw [hl] at h
          simp at h
          subst h
          obtain ⟨i, a, b⟩ := look_val q x v' k hl; exact ⟨i, by omega, b⟩
        | none =>
          rw [hl] at h
          simp only [Option.none_or] at h
          unfold look at h
          by_cases e : x = y
          · subst e
            simp at h
            exact ⟨k, by omega, hx, h.symm, h0⟩
          · simp [e] at h
/-- nobody is where another one is -/
def NoDup (q : List Wh) (n : Nat) : Prop := ∀ i j x, i < j → j < n → q[i]? = some x → q[j]? = some x → x.t = 0
theorem dup_iff (q : List Wh) : ∀ n, dupN q n = false ↔ NoDup q n
  | 0 => ⟨fun _ i j x h1 h2 => by omega, fun _ => rfl⟩
  | n + 1 => by
    have ih := dup_iff q n
    unfold dupN
    rw [Bool.or_eq_false_iff, ih]
    constructor
    · rintro ⟨h1, h2⟩ i j x hij hj ei ej
      rcases Nat.lt_or_ge j n with h3 | h3
      · exact h1 i j x hij h3 ei ej
      · have : j = n := by omega
        subst this
        rw [ej] at h2
        simp only at h2
        by_cases h0 : x.t = 0
        · exact h0
        · have := (look_held q x j).2 ⟨h0, i, hij, ei⟩
          rw [this] at h2
          simp [h0] at h2
    · intro h
      refine ⟨fun i j x hij hj ei ej => h i j x hij (by omega) ei ej, ?_⟩
      cases hx : q[n]? with
      | none => rfl
      | some x =>
        simp only
        by_cases h0 : x.t = 0
        · simp [h0]
        · have : ¬ (look (heldN q n) x).isSome = true := fun hs => by
            obtain ⟨_, i, hi, ei⟩ := (look_held q x n).1 hs
            exact h0 (h i n x hi (by omega) ei hx)
          simp at this
          simp [this]
theorem NoDup.eq {q : List Wh} {n i j : Nat} {x : Wh} (h : NoDup q n) (hi : i < n) (hj : j < n) (ei : q[i]? = some x) (ej : q[j]? = some x) (h0 : x.t ≠ 0) : i = j := by
  rcases Nat.lt_trichotomy i j with h1 | h1 | h1
  · exact absurd (h i j x h1 hj ei ej) h0
  · exact h1
  · exact absurd (h j i x h1 hi ej ei) h0
/-- who holds a place -/
theorem hold_at {q : List Wh} {i : Nat} {x : Wh} (h : NoDup q q.length) (ei : q[i]? = some x) (h0 : x.t ≠ 0) : look (heldOf q) x = some (i : Int) := by
  have hi := (List.getElem?_eq_some_iff.1 ei).1
  have h1 := (look_held q x q.length).2 ⟨h0, i, hi, ei⟩
  obtain ⟨v, hv⟩ := Option.isSome_iff_exists.1 h1
  obtain ⟨j, hj, ej, e, _⟩ := look_val q x v _ hv
  have := h.eq hi hj ei ej h0
  unfold heldOf
  rw [hv, e, this]
theorem allIn1 {N a : Nat} {x : Wh} (h : a < N) : allIn N [⟨(a : Int), x⟩] = true := by unfold allIn inB; simp; exact h
theorem allIn2 {N a b : Nat} {x y : Wh} (h : a < N) (h' : b < N) : allIn N [⟨(a : Int), x⟩, ⟨(b : Int), y⟩] = true := by unfold allIn inB; simp; exact ⟨h, h'⟩
/-- the one place twice -/
theorem set_one {ps : List Wh} (h : Inv ps) {a b : Nat} {y : Wh} (hab : a ≠ b) (ha : a < ps.length) (eb : ps[b]? = some y) (h0 : y.t ≠ 0) : setF ps [⟨(a : Int), y⟩] = (9, ps) := by
  have hb := (List.getElem?_eq_some_iff.1 eb).1
  have hm := h.may y (List.mem_of_getElem? eb)
  unfold setF
  rw [if_neg (by rw [allIn1 ha]; decide), if_neg (by simp [hm])]
  have e : applyN ps [⟨(a : Int), y⟩] [(⟨(a : Int), y⟩ : Ch)].length = ps.set a y := rfl
  rw [e, if_pos]
  cases hd : dupN (ps.set a y) ps.length with
  | true => rfl
  | false =>
    have hn := (dup_iff _ _).1 hd
    have e1 : (ps.set a y)[a]? = some y := by simp [ha]
    have e2 : (ps.set a y)[b]? = some y := by rw [List.getElem?_set_ne hab]; exact eb
    exact absurd (hn.eq ha hb e1 e2 h0) hab
/-- both change places -/
theorem set_swap {ps : List Wh} (h : Inv ps) {a b : Nat} {x y : Wh} (hab : a ≠ b) (ea : ps[a]? = some x) (eb : ps[b]? = some y) : setF ps [⟨(a : Int), y⟩, ⟨(b : Int), x⟩] = (0, (ps.set a y).set b x) := by
  have ha := (List.getElem?_eq_some_iff.1 ea).1
  have hb := (List.getElem?_eq_some_iff.1 eb).1
  have hx := h.may x (List.mem_of_getElem? ea)
  have hy := h.may y (List.mem_of_getElem? eb)
  unfold setF
  rw [if_neg (by rw [allIn2 ha hb]; decide), if_neg (by simp [hx, hy])]
  have e : applyN ps [⟨(a : Int), y⟩, ⟨(b : Int), x⟩] [(⟨(a : Int), y⟩ : Ch), ⟨(b : Int), x⟩].length = (ps.set a y).set b x := rfl
  rw [e]
  have hn := (dup_iff ps ps.length).1 h.dup
  have key : ∀ i z, ((ps.set a y).set b x)[i]? = some z → ∃ k, ps[k]? = some z ∧ k < ps.length ∧ (i = a → k = b) ∧ (i = b → k = a) ∧ (i ≠ a → i ≠ b → k = i) := by
    intro i z hz
    by_cases h1 : i = b
    · subst h1
      rw [List.getElem?_set_self (by simpa using hb)] at hz
      injection hz with hz; subst hz
      exact ⟨a, ea, ha, fun e => absurd e.symm hab, fun _ => rfl, fun _ e => absurd rfl e⟩
    · rw [List.getElem?_set_ne (Ne.symm h1)] at hz
      by_cases h2 : i = a
      · subst h2
        rw [List.getElem?_set_self ha] at hz
        injection hz with hz; subst hz
        exact ⟨b, eb, hb, fun _ => rfl, fun e => absurd e hab, fun e => absurd rfl e⟩
      · rw [List.getElem?_set_ne (Ne.symm h2)] at hz
        exact ⟨i, hz, (List.getElem?_eq_some_iff.1 hz).1, fun e => absurd e h2, fun e => absurd e h1, fun _ _ => rfl⟩
  have hd : dupN ((ps.set a y).set b x) ps.length = false := by
    rw [dup_iff]
    intro i j z hij hj ei ej
    obtain ⟨k, ek, hk, k1, k2, k3⟩ := key i z ei
    obtain ⟨m, em, hm, m1, m2, m3⟩ := key j z ej
    by_cases h0 : z.t = 0
    · exact h0
    · have := hn.eq hk hm ek em h0
      by_cases i1 : i = a
      · have := k1 i1
        by_cases j2 : j = b
        · have := m2 j2; omega
        · have := m3 (by omega) j2; omega
      · by_cases i2 : i = b
        · have := k2 i2
          by_cases j1 : j = a
          · have := m1 j1; omega
          · have := m3 j1 (by omega); omega
        · have := k3 i1 i2
          by_cases j1 : j = a
          · have := m1 j1; omega
          · by_cases j2 : j = b
            · have := m2 j2; omega
            · have := m3 j1 j2; omega
  rw [hd]
  rfl
end Go.Proofs.Ytfpllllglpjipaa

