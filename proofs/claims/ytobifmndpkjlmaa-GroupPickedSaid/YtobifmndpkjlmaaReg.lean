/- Regions that draw their order, whose loads come ahead of what stores: a condition on the world that is asked only until the operations D have come up. -/
import Derived.Test.YtobifmndpkjlmaaLib
import Derived.StillTail
namespace Go.BW
open Go.RowKit
section
variable {P : Program} {ops : Array Oper} {md : Region.Mode} {Q : Exit → Act → World → Prop} {D : List Nat} {S : World → Prop}
/-- S, while one of D is still to come -/
def Until (D : List Nat) (S : World → Prop) (listed : Array Bool) (w : World) : Prop := ∀ d ∈ D, listed.getD d true = false → S w
/-- whatever comes up, in whatever order; S behind each, while one of D is still to come -/
def wpU (P : Program) (md : Region.Mode) (ops : Array Oper) (Q : Exit → Act → World → Prop) (D : List Nat) (S : World → Prop) : Nat → Array Bool → Act → World → Prop
  | 0, l, a, w => Region.ready md ops l = [] ∧ Q .normal a w
  | n + 1, l, a, w => (Region.ready md ops l = [] → Q .normal a w) ∧
    ∀ i ∈ Region.ready md ops l, wpOp P ops Q i (fun a' w' => Until D S (l.setIfInBounds i true) w' ∧ wpU P md ops Q D S n (l.setIfInBounds i true) a' w') a w
theorem wpAny_of_U : ∀ (n : Nat) (l : Array Bool) (a : Act) (w : World), wpU P md ops Q D S n l a w → wpAny P md ops Q n l a w
  | 0, _, _, _, h => h
  | n + 1, _, _, _, h => ⟨h.1, fun i hi => wpOp_mono (fun a' w' k => wpAny_of_U n _ a' w' k.2) (h.2 i hi)⟩
theorem wp_region_U (D : List Nat) (S : World → Prop) {id : Nat} {a : Act} {w : World} (hm : P.follows .mixedOrders = true)
    (h : wpU P .any ops Q D S ops.size (Array.replicate ops.size false) a w.drew) : (Code.region id ops true).wp P Q a w :=
  wp_region_any hm (wpAny_of_U _ _ _ _ h)

theorem unset {l : Array Bool} {i d : Nat} (h : (l.setIfInBounds i true).getD d true = false) : l.getD d true = false := by
  by_cases e : i = d
  · subst e
    rcases Nat.lt_or_ge i l.size with k | k <;> simp [k] at h
  · rwa [getD_set_ne true e] at h
/-- T is what the operation asks of the world; it is at hand while i is still to come -/
theorem wpU_first {i : Nat} {oi : Oper} {v : Value} {T : World → Prop} (hi : ops[i]? = some oi) (hsel : ∀ (j : Nat) (o : Oper) cs b, ops[j]? = some o → o.op ≠ .select cs b)
    (hQ : ∀ c a w, Q (.panic c) (a.put oi.dst v) w → Q (.panic c) a w)
    (hT : ∀ l w, l.getD i true = true → Until D S l w → (∀ j oj, ops[j]? = some oj → (∃ e ∈ oj.after, Region.binds md e = true ∧ e.on = i) → l.getD j true = false) → T w ∧ (∀ l', (∀ d, l'.getD d true = false → l.getD d true = false ∨ d = i) → Until D S l' w)) :
    ∀ (n : Nat) (l : Array Bool) (a : Act) (w : World),
      (∀ j oj, ops[j]? = some oj → j ≠ i → l.getD j true = false → (∀ e ∈ oj.after, Region.binds md e = true → e.on ≠ i) → oi.apart ops oj = true) →
      (∀ j oj, ops[j]? = some oj → (∃ e ∈ oj.after, Region.binds md e = true ∧ e.on = i) → j ≠ i ∧ l.getD j true = false) →
      i ∈ Region.ready md ops l → YieldsIf P ops T oi v a → T w → Until D S (l.setIfInBounds i true) w →
      wpU P md ops Q D S n (l.setIfInBounds i true) (a.put oi.dst v) w → wpU P md ops Q D S (n + 1) l a w := by
  intro n
  induction n with
  | zero =>
    intro l a w _ _ hr hy hS hU H
    refine ⟨fun h => (by rw [h] at hr; cases hr), fun j hj => ?_⟩
    by_cases hji : j = i
    · subst hji; exact hy.wpOp hi hS ⟨hU, H⟩
    · have := ready_mono hj hji
      rw [H.1] at this
      cases this
  | succ n ih =>
    intro l a w hfree hw hr hy hS hU H
    refine ⟨fun h => (by rw [h] at hr; cases hr), fun j hj => ?_⟩
    by_cases hji : j = i
    · subst hji; exact hy.wpOp hi hS ⟨hU, H⟩
    · have h1 := H.2 j (ready_mono hj hji)
      obtain ⟨hjun, oj, hoj, hall⟩ := mem_ready.1 hj
      have hiun := (mem_ready.1 hr).1
      have hnot : ∀ e ∈ oj.after, Region.binds md e = true → e.on ≠ i := fun e he hb heq => by
        have h2 := hall e he hb
        rw [heq, getD_both hiun] at h2
        cases h2
      have h2 := wpOp_putIf hoj (hfree j oj hoj hji hjun hnot) (fun cs b => hsel i oi cs b hi) (fun cs b => hsel j oj cs b hoj) hQ hy h1
      have hfree' : ∀ k ok, ops[k]? = some ok → k ≠ i → (l.setIfInBounds j true).getD k true = false →
          (∀ e ∈ ok.after, Region.binds md e = true → e.on ≠ i) → oi.apart ops ok = true := fun k ok hk hki hun hno => hfree k ok hk hki (unset hun) hno
      have hw' : ∀ k ok, ops[k]? = some ok → (∃ e ∈ ok.after, Region.binds md e = true ∧ e.on = i) → k ≠ i ∧ (l.setIfInBounds j true).getD k true = false := fun k ok hk he => by
        obtain ⟨h3, h4⟩ := hw k ok hk he
        refine ⟨h3, ?_⟩
        have : j ≠ k := by
          rintro rfl
          obtain ⟨e, he1, he2, he3⟩ := he
          rw [hk] at hoj; injection hoj with hoj; subst hoj
          exact hnot e he1 he2 he3
        rwa [getD_set_ne true this]
      refine wpOp_mono (fun a' w' h3 => ?_) h2
      obtain ⟨h5, h6, h7⟩ := h3
      have hlt : i < l.size := by
        rcases Nat.lt_or_ge i l.size with k | k
        · exact k
        · simp [Array.getElem?_eq_none k] at hiun
      rw [Array.setIfInBounds_comm _ _ (fun e => hji e.symm)] at h6 h7
      obtain ⟨t1, t2⟩ := hT ((l.setIfInBounds j true).setIfInBounds i true) w' (by simp [hlt]) h6
        (fun k ok hk he => by obtain ⟨h8, h9⟩ := hw' k ok hk he; rwa [getD_set_ne true (fun e => h8 e.symm)])
      refine ⟨t2 _ fun d hd => ?_, ih (l.setIfInBounds j true) a' w' hfree' hw' (ready_mono hr (Ne.symm hji)) h5 t1 h6 h7⟩
      by_cases hdi : d = i
      · exact .inr hdi
      · exact .inl (by rwa [getD_set_ne true (fun e => hdi e.symm)])
def waitB (md : Region.Mode) (ops : Array Oper) (i : Nat) (l : Array Bool) : Bool := (List.range ops.size).all fun j => !Region.waitsFor md ops j i || (decide (j ≠ i) && !l.getD j true)
theorem waitB_spec {i : Nat} {l : Array Bool} (h : waitB md ops i l = true) : ∀ j oj, ops[j]? = some oj → (∃ e ∈ oj.after, Region.binds md e = true ∧ e.on = i) → j ≠ i ∧ l.getD j true = false := by
  intro j oj hj ⟨e, he, hb, hon⟩
  have h1 := List.all_eq_true.1 h j (List.mem_range.2 (Array.getElem?_eq_some_iff.1 hj).1)
  have h2 : Region.waitsFor md ops j i = true := by
    unfold Region.waitsFor
    simp only [hj]
    exact Array.any_eq_true'.2 ⟨e, he, by simp [hb, hon]⟩
  rw [h2] at h1
  simpa using h1
/-- may these be taken first, one behind the other? pure: no one of D among them; else each is waited for by one of D -/
def segU (md : Region.Mode) (ops : Array Oper) (D : List Nat) (pure : Bool) : List Nat → Array Bool → Bool
  | [], _ => true
  | i :: r, l => decide (i < ops.size) && Region.free md ops l i && (Region.ready md ops l).contains i && waitB md ops i l && (if pure then !D.contains i else D.any fun d => Region.waitsFor md ops d i) && segU md ops D pure r (l.setIfInBounds i true)
theorem until_set {l : Array Bool} {w : World} {i : Nat} (h : Until D S l w) : Until D S (l.setIfInBounds i true) w := fun d hd k => h d hd (unset k)
theorem U_seg (hs : Region.noSelect ops = true) (hQ : ∀ c a d v w, Q (.panic c) (a.put d v) w → Q (.panic c) a w) (pure : Bool) {fuel : Nat} {w : World} :
    ∀ (r : List Nat) (l : Array Bool) (a : Act), (pure = false → S w) → Until D S l w → segU md ops D pure r l = true →
      wpYield P ops (if pure then fun _ => True else S) (fun a' => wpU P md ops Q D S fuel (segMark r l) a' w) (r.filterMap (ops[·]?)) a → wpU P md ops Q D S (r.length + fuel) l a w
  | [], l, a, _, _, _, h => by simpa [wpYield, segMark] using h
  | i :: r, l, a, hS, hU, hk, h => by
    simp only [segU, Bool.and_eq_true, decide_eq_true_eq] at hk
    obtain ⟨⟨⟨⟨⟨h1, h2⟩, h3⟩, h4⟩, h5⟩, h6⟩ := hk
    have hi : ops[i]? = some ops[i] := Array.getElem?_eq_getElem h1
    rw [List.filterMap_cons, hi] at h
    obtain ⟨v, hy, hK⟩ := h
    have ih := U_seg hs hQ pure r (l.setIfInBounds i true) (a.put ops[i].dst v) hS (until_set hU) h6 hK
    rw [List.length_cons, show r.length + 1 + fuel = (r.length + fuel) + 1 by omega]
    refine wpU_first hi (Region.noSelect_spec hs) (fun c a w => hQ c a _ v w) ?_ _ l a w (Region.free_spec hi h2) (waitB_spec h4) (by simpa using h3) hy ?_ (until_set hU) ih
    · intro l' w' _ hU' hw'
      cases pure with
      | true =>
        refine ⟨trivial, fun l'' hl d hd hd2 => ?_⟩
        rcases hl d hd2 with h | h
        · exact hU' d hd h
        · subst h; simp at h5; exact absurd hd h5
      | false =>
        simp only [Bool.false_eq_true, if_false] at h5
        obtain ⟨d, hd, hwt⟩ := List.any_eq_true.1 h5
        obtain ⟨oj, hoj, e, he, hb, hon⟩ := Region.waitsFor_spec hwt
        have hsw : S w' := hU' d hd (hw' d oj hoj ⟨e, he, hb, hon⟩)
        exact ⟨hsw, fun _ _ _ _ _ => hsw⟩
    · cases pure with
      | true => trivial
      | false => exact hS rfl
theorem U_seg' (pure : Bool) {fuel : Nat} {w : World} {r : List Nat} {n : Nat} {l : Array Bool} {a : Act} {os : List Oper} (hn : n = r.length + fuel) (hs : Region.noSelect ops = true) (hk : segU md ops D pure r l = true) (ho : r.filterMap (ops[·]?) = os)
    (hQ : ∀ c a d v w, Q (.panic c) (a.put d v) w → Q (.panic c) a w) (hS : pure = false → S w) (hU : Until D S l w)
    (h : wpYield P ops (if pure then fun _ => True else S) (fun a' => wpU P md ops Q D S fuel (segMark r l) a' w) os a) : wpU P md ops Q D S n l a w := by
  subst hn; subst ho
  exact U_seg hs hQ pure r l a hS hU hk h
theorem U_segP {fuel : Nat} {w : World} {r : List Nat} {n : Nat} {l : Array Bool} {a : Act} {os : List Oper} (hn : n = r.length + fuel) (hs : Region.noSelect ops = true) (hk : segU md ops D true r l = true) (ho : r.filterMap (ops[·]?) = os)
    (hQ : ∀ c a d v w, Q (.panic c) (a.put d v) w → Q (.panic c) a w) (hU : Until D S l w)
    (h : wpYield P ops (fun _ => True) (fun a' => wpU P md ops Q D S fuel (segMark r l) a' w) os a) : wpU P md ops Q D S n l a w := U_seg' true hn hs hk ho hQ (fun h => by cases h) hU h
theorem U_segL {fuel : Nat} {w : World} {r : List Nat} {n : Nat} {l : Array Bool} {a : Act} {os : List Oper} (hn : n = r.length + fuel) (hs : Region.noSelect ops = true) (hk : segU md ops D false r l = true) (ho : r.filterMap (ops[·]?) = os)
    (hQ : ∀ c a d v w, Q (.panic c) (a.put d v) w → Q (.panic c) a w) (hS : S w)
    (h : wpYield P ops S (fun a' => wpU P md ops Q D S fuel (segMark r l) a' w) os a) : wpU P md ops Q D S n l a w := U_seg' false hn hs hk ho hQ (fun _ => hS) (fun _ _ _ => hS) h
/-- whichever is ready -/
theorem U_all {rs : List Nat} {fuel : Nat} {l : Array Bool} {a : Act} {w : World} (hr : Region.ready md ops l = rs) (hne : rs ≠ [])
    (h : ∀ i ∈ rs, wpOp P ops Q i (fun a' w' => Until D S (l.setIfInBounds i true) w' ∧ wpU P md ops Q D S fuel (l.setIfInBounds i true) a' w') a w) : wpU P md ops Q D S (fuel + 1) l a w :=
  ⟨fun h0 => absurd (hr ▸ h0) hne, hr ▸ h⟩
theorem U_eff {fuel : Nat} {w : World} (i : Nat) {o : Oper} {l : Array Bool} {a : Act} (hi : ops[i]? = some o) (hr : Region.ready md ops l = [i]) (hw : Region.wanted o (yielded ops a.tmps) = true)
    (h : ∀ K : Act → World → Prop, (∀ a w, Until D S (l.setIfInBounds i true) w ∧ wpU P md ops Q D S fuel (l.setIfInBounds i true) a w → K a w) → o.wp P a w K Q) : wpU P md ops Q D S (fuel + 1) l a w := by
  refine U_all hr (by simp) fun j hj => ?_
  rw [List.mem_singleton.1 hj]
  unfold wpOp
  simp only [hi, hw, if_true]
  exact .inl (h _ fun _ _ hh => hh)
theorem U_done {l : Array Bool} {a : Act} {w : World} (hr : Region.ready md ops l = []) (h : Q .normal a w) : ∀ fuel, wpU P md ops Q D S fuel l a w
  | 0 => ⟨hr, h⟩
  | _ + 1 => ⟨fun _ => h, by rw [hr]; simp⟩
theorem until_of {l : Array Bool} {w : World} (h : S w) : Until D S l w := fun _ _ _ => h
theorem until_past {l : Array Bool} {w : World} (h : (D.all fun d => l.getD d true) = true) : Until D S l w := fun d hd k => by
  have := List.all_eq_true.1 h d hd
  rw [k] at this; cases this
end
end Go.BW

