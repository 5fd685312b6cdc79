/- Rows of elements of several cells, each the cells of a value; under the premises that each lemma states. -/
import Derived.Test.YtobifmndpkjlmaaLib
namespace Go.BW
open Go.RowKit
section
variable {α : Type} {enc : α → List Value} {size : Nat}
/-- elements laid end to end -/
def fl (enc : α → List Value) (os : List α) : List Value := (os.map enc).flatten
theorem fl_nil : fl enc [] = [] := rfl
theorem fl_app (a b : List α) : fl enc (a ++ b) = fl enc a ++ fl enc b := by simp [fl]
theorem fl_one (a : α) : fl enc [a] = enc a := by simp [fl]
theorem fl_cons (a : α) (l : List α) : fl enc (a :: l) = enc a ++ fl enc l := by simp [fl]
theorem fl_len (hl : ∀ x, (enc x).length = size) : ∀ os : List α, (fl enc os).length = os.length * size
  | [] => by simp [fl]
  | a :: os => by rw [fl_cons, List.length_append, hl, fl_len hl os, List.length_cons, Nat.succ_mul]; omega
theorem fl_take (hl : ∀ x, (enc x).length = size) : ∀ (os : List α) (k : Nat), (fl enc os).take (k * size) = fl enc (os.take k)
  | [], k => by simp [fl]
  | a :: os, 0 => by simp [fl]
  | a :: os, k + 1 => by
    rw [List.take_succ_cons, fl_cons, fl_cons, Nat.succ_mul, Nat.add_comm, List.take_append, hl, List.take_of_length_le (by rw [hl]; omega), Nat.add_sub_cancel_left, fl_take hl os k]
theorem fl_drop (hl : ∀ x, (enc x).length = size) : ∀ (os : List α) (k : Nat), (fl enc os).drop (k * size) = fl enc (os.drop k)
  | [], k => by simp [fl]
  | a :: os, 0 => by simp [fl]
  | a :: os, k + 1 => by
    rw [List.drop_succ_cons, fl_cons, Nat.succ_mul, Nat.add_comm, List.drop_append, hl, List.drop_of_length_le (by rw [hl]; omega), Nat.add_sub_cancel_left, List.nil_append, fl_drop hl os k]
theorem fl_at (hl : ∀ x, (enc x).length = size) {os : List α} {k : Nat} {x : α} (hk : os[k]? = some x) : ((fl enc os).drop (k * size)).take size = enc x := by
  obtain ⟨h, rfl⟩ := List.getElem?_eq_some_iff.1 hk
  rw [fl_drop hl, List.drop_eq_getElem_cons h, fl_cons, List.take_append, hl, Nat.sub_self, List.take_zero, List.append_nil, List.take_of_length_le (by rw [hl]; exact Nat.le_refl _)]
theorem fl_set (hl : ∀ x, (enc x).length = size) {os : List α} {k : Nat} (hk : k < os.length) (y : α) : splice (fl enc os) (k * size) (enc y) = fl enc (os.set k y) := by
  unfold splice
  rw [fl_take hl, hl, show k * size + size = (k + 1) * size by rw [Nat.succ_mul], fl_drop hl, List.set_eq_take_append_cons_drop, if_pos hk, fl_app, fl_cons]
theorem fl_inj (hl : ∀ x, (enc x).length = size) (hs : 0 < size) (hi : ∀ x y, enc x = enc y → x = y) : ∀ a b : List α, fl enc a = fl enc b → a = b
  | [], [], _ => rfl
  | [], b :: bs, h => by
    have := congrArg List.length h
    rw [fl_len hl, fl_len hl, List.length_nil, Nat.zero_mul] at this
    have h2 : 0 < (b :: bs).length * size := Nat.mul_pos (Nat.succ_pos _) hs
    omega
  | a :: as, [], h => by
    have := congrArg List.length h
    rw [fl_len hl, fl_len hl, List.length_nil, Nat.zero_mul] at this
    have h2 : 0 < (a :: as).length * size := Nat.mul_pos (Nat.succ_pos _) hs
    omega
  | a :: as, b :: bs, h => by
    rw [fl_cons, fl_cons] at h
    obtain ⟨h1, h2⟩ := List.append_inj h (by rw [hl, hl])
    rw [hi _ _ h1, fl_inj hl hs hi as bs h2]
theorem Rd.atL {w : World} {B n k : Nat} {A : Option Addr} {os : List α} (h : Rd w B size A n (fl enc os)) (hl : ∀ x, (enc x).length = size) (hs : 0 < size) (hk : k < n) :
    os.length = n ∧ ∃ b off x, A = some ⟨b, off, none⟩ ∧ b < B ∧ os[k]? = some x ∧ ∀ j u, (enc x)[j]? = some u → w.cell? ⟨b, off + k * size + j, none⟩ = some u := by
  have hn : os.length = n := by
    have := h.1
    rw [fl_len hl] at this
    exact Nat.eq_of_mul_eq_mul_right hs this
  obtain ⟨b, off, e, hb, _, hc⟩ := h.atN hk hs
  have hx : os[k]? = some os[k] := List.getElem?_eq_getElem (by omega)
  rw [fl_at hl hx] at hc
  exact ⟨hn, b, off, os[k], e, hb, hx, hc⟩
theorem Own.atL {w : World} {base r n c k : Nat} {e : TypeId} {os : List α} (h : Own w base e size (some ⟨r, 0, none⟩) n c (fl enc os)) (hl : ∀ x, (enc x).length = size) (hs : 0 < size) {x : α} (hx : os[k]? = some x) :
    ∀ j u, (enc x)[j]? = some u → w.cell? ⟨r, k * size + j, none⟩ = some u := by
  have hn : os.length = n := by
    have := h.len
    rw [fl_len hl] at this
    exact Nat.eq_of_mul_eq_mul_right hs this
  have hk := (List.getElem?_eq_some_iff.1 hx).1
  obtain ⟨_, b, off, x', e, _, hx', hc⟩ := h.rd.atL hl hs (k := k) (by omega)
  rw [hx] at hx'
  injection hx' with hx'; subst hx'
  injection e with e; injection e with e1 e2; subst e1; subst e2
  intro j u hu
  have := hc j u hu
  rwa [Nat.zero_add] at this
theorem Own.lenL {w : World} {base n c : Nat} {e : TypeId} {A : Option Addr} {os : List α} (h : Own w base e size A n c (fl enc os)) (hl : ∀ x, (enc x).length = size) (hs : 0 < size) : os.length = n := by
  have := h.len
  rw [fl_len hl] at this
  exact Nat.eq_of_mul_eq_mul_right hs this
theorem Rd.lenL {w : World} {B n : Nat} {A : Option Addr} {os : List α} (h : Rd w B size A n (fl enc os)) (hl : ∀ x, (enc x).length = size) (hs : 0 < size) : os.length = n := by
  have := h.1
  rw [fl_len hl] at this
  exact Nat.eq_of_mul_eq_mul_right hs this
theorem Rd.takeL {w : World} {B n k : Nat} {A : Option Addr} {os : List α} (h : Rd w B size A n (fl enc os)) (hl : ∀ x, (enc x).length = size) (hk : k ≤ n) : Rd w B size A k (fl enc (os.take k)) := by
  have := h.take hk
  rwa [fl_take hl] at this
/-- one cell of one element -/
theorem fl_set1 (hl : ∀ x, (enc x).length = size) {u : Value} {x y : α} {j : Nat} (hj : j < size) (he : enc y = (enc x).set j u) : ∀ (os : List α) (k : Nat), os[k]? = some x → (fl enc os).set (k * size + j) u = fl enc (os.set k y)
  | [], k, h => by simp at h
  | a :: os, 0, h => by
    simp at h
    subst h
    rw [List.set_cons_zero, fl_cons, fl_cons, he, Nat.zero_mul, Nat.zero_add, List.set_append, if_pos (by rw [hl]; exact hj)]
  | a :: os, k + 1, h => by
    rw [List.set_cons_succ, fl_cons, fl_cons, List.set_append, if_neg (by rw [hl, Nat.succ_mul]; omega), hl, show (k + 1) * size + j - size = k * size + j by rw [Nat.succ_mul]; omega, fl_set1 hl hj he os k (by simpa using h)]
/-- the first cells of one element -/
theorem fl_splice (hl : ∀ x, (enc x).length = size) {x y : α} {cs : List Value} (hc : cs.length ≤ size) (he : enc y = splice (enc x) 0 cs) : ∀ (os : List α) (k : Nat), os[k]? = some x → splice (fl enc os) (k * size) cs = fl enc (os.set k y)
  | [], k, h => by simp at h
  | a :: os, 0, h => by
    simp at h
    subst h
    rw [List.set_cons_zero, fl_cons, fl_cons, he]
    unfold splice
    rw [Nat.zero_mul, List.take_zero, List.nil_append, List.take_zero, List.nil_append, Nat.zero_add, List.drop_append, hl, show cs.length - size = 0 by omega, List.drop_zero, List.append_assoc]
  | a :: os, k + 1, h => by
    rw [List.set_cons_succ, fl_cons, fl_cons, ← fl_splice hl hc he os k (by simpa using h)]
    unfold splice
    have e : (k + 1) * size = size + k * size := by rw [Nat.succ_mul]; omega
    rw [e, List.take_append, hl, List.take_of_length_le (by rw [hl]; omega), Nat.add_sub_cancel_left]
    simp only [List.append_assoc]
    rw [Nat.add_assoc, List.drop_append, hl, List.drop_of_length_le (by rw [hl]; omega), List.nil_append, Nat.add_sub_cancel_left]
end
end Go.BW

