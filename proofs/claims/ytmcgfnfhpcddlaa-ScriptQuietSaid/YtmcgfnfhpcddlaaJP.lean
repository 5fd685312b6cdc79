/- A script done to the toy, as plain data: what the toy and the stage answer. -/
import Derived.Test.YtmcgfnfhpcddlaaJD
import Derived.Test.YtmcgfnfhpcddlaaJC
set_option linter.unusedVariables false
set_option linter.unusedSimpArgs false
/- A script done to the toy, as plain data: what the toy and the stage answer. -/
namespace Go.Proofs.Ytmcgfnfhpcddlaa
open Go.BW
open Md (mayOf settleB fallB flushB secAt lastB hasB z64b)

/-- a sector of a row written -/
def setAt (l : List UInt8) (i : Nat) (s : List UInt8) : List UInt8 := splice l (i * 64) s
structure St where
  ar : Nat
  nd : Nat
  M : List (List UInt8 × Bool)
  L : List UInt8
  N : List UInt8
  keep : Nat
  calls : Nat
  lied : Bool
  again : Nat
/-- how many blocks, which call lies, what it says then -/
structure Par where
  bl : Nat
  at' : Nat
  odd : List UInt8
def noS : List UInt8 := 110 :: 111 :: List.replicate 62 0
def keptB (keep i : Nat) : Bool := decide (keep / 2 ^ (i % 64) % 2 = 1)
def nextK (keep : Nat) : Nat := (keep * 6364136223846793005 + 1442695040888963407) % 18446744073709551616
/-- what the toy keeps at a fall, up to a block -/
def selL (keep : Nat) (L N : List UInt8) : Nat → List UInt8
  | 0 => L
  | i + 1 => if keptB keep i then setAt (selL keep L N i) i (secAt N i) else selL keep L N i
def selN (keep : Nat) (L N : List UInt8) : Nat → List UInt8
  | 0 => N
  | i + 1 => if keptB keep i then selN keep L N i else setAt (selN keep L N i) i (secAt L i)
section
variable (p : Par)
def lieB (S : St) : Bool := decide (S.calls + 1 = p.at')
def lieS (S : St) : St := { S with calls := S.calls + 1, lied := S.lied || lieB p S }
def readP (S : St) (k : Nat) : Bool × St :=
  if p.bl ≤ k then (!lieB p S, lieS p S)
  else
    let s := if lieB p S then p.odd else secAt S.N k
    let b := S.M.getD k ([], false)
    (mayOf b s, { lieS p S with M := S.M.set k (settleB b s) })
def powD (S : St) : Bool := decide (S.ar = 1)
def powS (S : St) : St := { S with ar := S.ar - 1 }
def writeP (S : St) (k : Nat) (s : List UInt8) : Bool × Bool × St :=
  if p.bl ≤ k then (!lieB p S, false, lieS p S)
  else if lieB p S then (false, false, lieS p S)
  else if s = noS then (true, false, lieS p S)
  else (true, powD S, { powS (lieS p S) with N := if !powD S || decide (S.keep % 2 = 1) then setAt S.N k s else S.N, M := S.M.set k ((S.M.getD k ([], false)).1 ++ s, false) })
def flushT (S : St) : St := { powS S with L := if !powD S || decide (S.keep / 2 % 2 = 1) then S.N else S.L }
def flushP (S : St) : Bool × Bool × St := (true, powD S, { flushT S with M := if powD S then S.M else S.M.map flushB })
def stepP (S : St) (n : Int) : Bool × Bool × St :=
  if 7 < n then (!lieB p S, false, lieS p S)
  else if lieB p S then (false, false, lieS p S)
  else (true, powD S, powS (lieS p S))
def addP (S : St) (n : Int) : Bool × Bool × St :=
  if 10 ≤ S.nd then (true, false, S)
  else if n < 1 ∨ 4096 < n then (true, false, S)
  else (!lieB p S, false, { lieS p S with nd := S.nd + 1 })
def doesP (S : St) (a : Act) : Bool × Bool × St :=
  if a.k = 1 then writeP p S a.b.toNat a.s
  else if a.k = 2 then ((readP p S a.b.toNat).1, false, (readP p S a.b.toNat).2)
  else if a.k = 3 then flushP S
  else if a.k = 4 then stepP p S a.n
  else if a.k = 5 then addP p S a.n
  else if a.k = 7 then (true, true, { S with again := a.n.toNat, ar := 0 })
  else if a.k = 8 then (true, false, { S with again := a.n.toNat, ar := (max a.at' 1).toNat })
  else if a.k = 10 then (true, true, { flushT S with ar := 0 })
  else (true, false, S)
/-- the first k blocks looked at -/
def lookP (S : St) : Nat → Bool × St
  | 0 => (true, S)
  | k + 1 => if (lookP S k).1 then readP p (lookP S k).2 k else lookP S k
def openP (S : St) : St := { S with ar := S.again - 1, again := 0, L := selL S.keep S.L S.N p.bl, N := selN S.keep S.L S.N p.bl, keep := nextK S.keep }
def riseP (S : St) : Bool × St := lookP p (openP p { S with M := S.M.map fallB }) p.bl
def actP (S : St) (a : Act) : Bool × St :=
  if (doesP p S a).1 then (if (doesP p S a).2.1 then riseP p (doesP p S a).2.2 else (true, (doesP p S a).2.2)) else (false, (doesP p S a).2.2)
/-- the first k acts done -/
def runP (S : St) (acs : List Act) : Nat → Bool × St
  | 0 => (true, S)
  | k + 1 => if (runP S acs k).1 then actP p (runP S acs k).2 (acs.getD k (a0 0)) else runP S acs k
def newS (nd : Nat) (keep : Nat) : St := ⟨0, nd, List.replicate p.bl (z64b, false), List.replicate (64 * p.bl) 0, List.replicate (64 * p.bl) 0, keep, 0, false, 0⟩
/-- what a run answers: the act where it was wrong, or all of them, then the look behind -/
def RunIs (S : St) (acs : List Act) (n : Nat) (ok : Bool) (E : St) : Prop :=
  (n < acs.length ∧ ok = false ∧ (runP p S acs n).1 = true ∧ (runP p S acs (n + 1)).1 = false ∧ E = (runP p S acs (n + 1)).2) ∨
  (n = acs.length ∧ (runP p S acs n).1 = true ∧ lookP p (runP p S acs n).2 p.bl = (ok, E))
end
end Go.Proofs.Ytmcgfnfhpcddlaa


/- What a run on the toy answers: all well if it did not lie, wrong if it did; for all scripts that may be. -/
namespace Go.Proofs.Ytmcgfnfhpcddlaa
open Go.BW Go.RowKit
open Md (mayOf settleB fallB flushB secAt lastB hasB hasB_iff z64b)

theorem get_splice {α : Type} (l s : List α) (o k : Nat) (h : o + s.length ≤ l.length) : (splice l o s)[k]? = if k < o then l[k]? else if k < o + s.length then s[k - o]? else l[k]? := by
  unfold splice
  have ht : (l.take o).length = o := by rw [List.length_take]; omega
  by_cases h1 : k < o
  · rw [if_pos h1, List.getElem?_append_left (by rw [ht]; exact h1), List.getElem?_take_of_lt h1]
  · rw [if_neg h1, List.getElem?_append_right (by rw [ht]; omega), ht]
    by_cases h2 : k < o + s.length
    · rw [if_pos h2, List.getElem?_append_left (by omega)]
    · rw [if_neg h2, List.getElem?_append_right (by omega), List.getElem?_drop]
      congr 1; omega
theorem get_secAt (l : List UInt8) (i k : Nat) : (secAt l i)[k]? = if k < 64 then l[i * 64 + k]? else none := by
  unfold secAt
  by_cases h : k < 64
  · rw [if_pos h, List.getElem?_take_of_lt h, List.getElem?_drop]
  · rw [if_neg h, List.getElem?_eq_none]; rw [List.length_take]; omega
theorem secAt_len {l : List UInt8} {n i : Nat} (h : l.length = 64 * n) (hi : i < n) : (secAt l i).length = 64 := by
  unfold secAt; rw [List.length_take, List.length_drop]; omega
theorem setAt_len {l s : List UInt8} {n i : Nat} (h : l.length = 64 * n) (hi : i < n) (hs : s.length = 64) : (setAt l i s).length = 64 * n := by
  unfold setAt splice; simp [h, hs]; omega
theorem secAt_set {l s : List UInt8} {n i : Nat} (h : l.length = 64 * n) (hi : i < n) (hs : s.length = 64) (j : Nat) : secAt (setAt l i s) j = if j = i then s else secAt l j := by
  apply List.ext_getElem?
  intro k
  rw [get_secAt]
  unfold setAt
  rw [get_splice _ _ _ _ (by rw [hs, h]; omega), hs]
  by_cases hk : k < 64
  · rw [if_pos hk]
    by_cases hj : j = i
    · subst hj
      rw [if_neg (by omega), if_pos (by omega), if_pos rfl]
      congr 1; omega
    · rw [if_neg hj, get_secAt, if_pos hk]
      by_cases h1 : j * 64 + k < i * 64
      · rw [if_pos h1]
      · rw [if_neg h1, if_neg (by omega)]
  · rw [if_neg hk]
    by_cases hj : j = i
    · rw [if_pos hj, List.getElem?_eq_none (by omega)]
    · rw [if_neg hj, get_secAt, if_neg hk]
theorem secAt_zero {n i : Nat} (hi : i < n) : secAt (List.replicate (64 * n) 0) i = z64b := by
  unfold secAt z64b
  rw [List.drop_replicate, List.take_replicate]
  congr 1; omega
/-- sectors laid end to end -/
def Secs (l : List (List UInt8)) : Prop := ∀ x ∈ l, x.length = 64
theorem flat_len : ∀ {l : List (List UInt8)}, Secs l → l.flatten.length = 64 * l.length
  | [], _ => rfl
  | a :: l, h => by
    rw [List.flatten_cons, List.length_append, h a (List.mem_cons_self ..), flat_len (fun x hx => h x (List.mem_cons_of_mem _ hx)), List.length_cons]; omega
theorem flat_sec : ∀ {l : List (List UInt8)}, Secs l → ∀ i, i < l.length → secAt l.flatten i = l.getD i []
  | [], _, i, hi => by simp at hi
  | a :: l, h, 0, _ => by
    have ha := h a (List.mem_cons_self ..)
    unfold secAt
    rw [List.flatten_cons, Nat.zero_mul, List.drop_zero, List.take_append_of_le_length (by omega), List.take_of_length_le (by omega)]
    rfl
  | a :: l, h, i + 1, hi => by
    have ha := h a (List.mem_cons_self ..)
    have := flat_sec (l := l) (fun x hx => h x (List.mem_cons_of_mem _ hx)) i (by simpa using hi)
    unfold secAt at this ⊢
    rw [List.flatten_cons, show (i + 1) * 64 = 64 + i * 64 by omega, ← ha, List.drop_length_add_append, ha, this]
    rfl
theorem flat_has {l : List (List UInt8)} (h : Secs l) (x : List UInt8) : hasB l.flatten x = decide (x ∈ l) := by
  rw [Bool.eq_iff_iff, decide_eq_true_iff, hasB_iff, flat_len h]
  constructor
  · rintro ⟨i, hi, rfl⟩
    have hi' : i < l.length := by omega
    rw [flat_sec h i hi', List.getD_eq_getElem?_getD, List.getElem?_eq_getElem hi']
    exact List.getElem_mem hi'
  · intro hx
    obtain ⟨i, hi, rfl⟩ := List.getElem_of_mem hx
    refine ⟨i, by omega, ?_⟩
    rw [flat_sec h i hi, List.getD_eq_getElem?_getD, List.getElem?_eq_getElem hi]; rfl
theorem flat_last {l : List (List UInt8)} {x : List UInt8} (h : Secs (l ++ [x])) : lastB (l ++ [x]).flatten = x := by
  have hx := h x (by simp)
  unfold lastB
  rw [List.flatten_append, List.flatten_singleton, List.length_append, hx, Nat.add_sub_cancel, List.drop_left]
/-- one block: what may be, closed or open, and what the toy has -/
structure BUp (odd : List UInt8) (q : Prop) (b : List UInt8 × Bool) (L N : List UInt8) : Prop where
  ex : ∃ l o, b = (l.flatten, o) ∧ Secs l ∧ (q → odd ∉ l) ∧ N ∈ l ∧ L ∈ l ∧ (o = false → ∃ l', l = l' ++ [N]) ∧ (o = true → L = N)
structure BDn (odd : List UInt8) (q : Prop) (b : List UInt8 × Bool) (L N : List UInt8) : Prop where
  ex : ∃ l o, b = (l.flatten, o) ∧ Secs l ∧ (q → odd ∉ l) ∧ N ∈ l ∧ L ∈ l
theorem BUp.dn {odd : List UInt8} {q : Prop} {b : List UInt8 × Bool} {L N : List UInt8} (h : BUp odd q b L N) : BDn odd q b L N := by
  obtain ⟨l, o, h1, h2, h3, h4, h5, _⟩ := h.ex; exact ⟨l, o, h1, h2, h3, h4, h5⟩
theorem BUp.may {odd : List UInt8} {q : Prop} {b : List UInt8 × Bool} {L N : List UInt8} (h : BUp odd q b L N) : mayOf b N = true := by
  obtain ⟨l, o, rfl, h2, h3, h4, h5, h6, h7⟩ := h.ex
  unfold mayOf
  cases o with
  | true => rw [if_pos rfl, flat_has h2]; simp [h4]
  | false =>
    obtain ⟨l', rfl⟩ := h6 rfl
    rw [if_neg (by simp), flat_last h2]; simp
theorem BUp.not {odd : List UInt8} {q : Prop} {b : List UInt8 × Bool} {L N : List UInt8} (h : BUp odd q b L N) (hq : q) : mayOf b odd = false := by
  obtain ⟨l, o, rfl, h2, h3, h4, h5, h6, h7⟩ := h.ex
  unfold mayOf
  cases o with
  | true => rw [if_pos rfl, flat_has h2]; simp [h3 hq]
  | false =>
    obtain ⟨l', rfl⟩ := h6 rfl
    rw [if_neg (by simp), flat_last h2]
    have := h3 hq
    exact decide_eq_false (fun e => this (by rw [← e]; simp))
theorem BUp.settle {odd : List UInt8} {q : Prop} {b : List UInt8 × Bool} {L N : List UInt8} (h : BUp odd q b L N) : BUp odd q (settleB b N) L N := by
  unfold settleB
  rw [h.may, Bool.true_and]
  obtain ⟨l, o, rfl, h2, h3, h4, h5, h6, h7⟩ := h.ex
  cases o with
  | true =>
    have hL := h7 rfl
    rw [if_pos rfl]
    exact ⟨[N], false, by simp, fun x hx => by rw [List.mem_singleton] at hx; subst hx; exact h2 _ h4, fun hq hm => by rw [List.mem_singleton] at hm; exact h3 hq (by rw [hm]; exact h4), by simp, by simp [hL], fun _ => ⟨[], rfl⟩, fun e => by cases e⟩
  | false => rw [if_neg (by simp)]; exact ⟨l, false, rfl, h2, h3, h4, h5, h6, h7⟩
structure Shape (p : Par) (S : St) : Prop where
  m : S.M.length = p.bl
  l : S.L.length = 64 * p.bl
  n : S.N.length = 64 * p.bl
/-- all blocks, the power on; the power off -/
structure Up (p : Par) (S : St) : Prop where
  shp : Shape p S
  all : ∀ i, i < p.bl → BUp p.odd (p.at' ≠ 0) (S.M.getD i ([], false)) (secAt S.L i) (secAt S.N i)
structure Dn (p : Par) (S : St) : Prop where
  shp : Shape p S
  all : ∀ i, i < p.bl → BDn p.odd (p.at' ≠ 0) (S.M.getD i ([], false)) (secAt S.L i) (secAt S.N i)
theorem Up.dn {p : Par} {S : St} (h : Up p S) : Dn p S := ⟨h.shp, fun i hi => (h.all i hi).dn⟩
theorem getD_set {α : Type} {l : List α} {i : Nat} (hi : i < l.length) (x d : α) (j : Nat) : (l.set i x).getD j d = if j = i then x else l.getD j d := by
  rw [List.getD_eq_getElem?_getD, List.getD_eq_getElem?_getD, List.getElem?_set]
  by_cases h : i = j
  · subst h; rw [if_pos rfl, if_pos rfl, if_pos hi]; rfl
  · rw [if_neg h, if_neg (fun e => h e.symm)]
theorem getD_map {α : Type} {l : List α} {i : Nat} (hi : i < l.length) (f : α → α) (d : α) : (l.map f).getD i d = f (l.getD i d) := by
  rw [List.getD_eq_getElem?_getD, List.getD_eq_getElem?_getD, List.getElem?_map, List.getElem?_eq_getElem hi]; rfl
/-- a step that went well, or a lie that was found -/
def Well (p : Par) (S : St) (ok : Bool) (S' : St) (Q : Prop) : Prop := (ok = true ∧ S'.lied = S.lied ∧ Q) ∨ (ok = false ∧ S'.lied = true ∧ p.at' ≠ 0)
section
variable {p : Par} {S : St}
theorem lie_at (h : lieB p S = true) : p.at' ≠ 0 := by unfold lieB at h; have := of_decide_eq_true h; omega
theorem lie_no (h : lieB p S = false) : (lieS p S).lied = S.lied := by show (S.lied || lieB p S) = S.lied; rw [h]; simp
theorem lie_yes (h : lieB p S = true) : (lieS p S).lied = true := by show (S.lied || lieB p S) = true; rw [h]; simp
theorem lie_up (h : Up p S) : Up p (lieS p S) := ⟨⟨h.shp.m, h.shp.l, h.shp.n⟩, h.all⟩
theorem read_well (h : Up p S) (k : Nat) : Well p S (readP p S k).1 (readP p S k).2 (Up p (readP p S k).2) := by
  unfold readP
  by_cases hk : p.bl ≤ k
  · rw [if_pos hk]
    rcases hl : lieB p S with _ | _
    · exact .inl ⟨rfl, lie_no hl, lie_up h⟩
    · exact .inr ⟨rfl, lie_yes hl, lie_at hl⟩
  · rw [if_neg hk]
    have hk' : k < p.bl := by omega
    have hb := h.all k hk'
    rcases hl : lieB p S with _ | _
    · refine .inl ⟨hb.may, lie_no hl, ⟨?_, h.shp.l, h.shp.n⟩, fun i hi => ?_⟩
      · show (S.M.set k _).length = _; rw [List.length_set]; exact h.shp.m
      · show BUp _ _ ((S.M.set k _).getD i _) (secAt S.L i) (secAt S.N i)
        rw [getD_set (by rw [h.shp.m]; exact hk')]
        by_cases e : i = k
        · subst e; rw [if_pos rfl]; exact hb.settle
        · rw [if_neg e]; exact h.all i hi
    · exact .inr ⟨hb.not (lie_at hl), lie_yes hl, lie_at hl⟩
theorem look_well (h : Up p S) : ∀ k, Well p S (lookP p S k).1 (lookP p S k).2 (Up p (lookP p S k).2)
  | 0 => .inl ⟨rfl, rfl, h⟩
  | k + 1 => by
    rcases look_well h k with ⟨h1, h2, h3⟩ | ⟨h1, h2, h3⟩
    · have := read_well h3 k
      unfold lookP
      rw [if_pos h1]
      rcases this with ⟨g1, g2, g3⟩ | g
      · exact .inl ⟨g1, g2.trans h2, g3⟩
      · exact .inr g
    · unfold lookP
      rw [if_neg (by rw [h1]; decide)]
      exact .inr ⟨h1, h2, h3⟩
theorem sel_len (h : Shape p S) : ∀ i, i ≤ p.bl → (selL S.keep S.L S.N i).length = 64 * p.bl ∧ (selN S.keep S.L S.N i).length = 64 * p.bl
  | 0, _ => ⟨h.l, h.n⟩
  | i + 1, hi => by
    obtain ⟨h1, h2⟩ := sel_len h i (by omega)
    unfold selL selN
    split
    · exact ⟨setAt_len h1 (by omega) (secAt_len h.n (by omega)), h2⟩
    · exact ⟨h1, setAt_len h2 (by omega) (secAt_len h.l (by omega))⟩
theorem sel_at (h : Shape p S) (j : Nat) : ∀ i, i ≤ p.bl →
    secAt (selL S.keep S.L S.N i) j = (if j < i ∧ keptB S.keep j = true then secAt S.N j else secAt S.L j) ∧
    secAt (selN S.keep S.L S.N i) j = (if j < i ∧ keptB S.keep j = false then secAt S.L j else secAt S.N j)
  | 0, _ => ⟨by rw [if_neg (by omega)]; rfl, by rw [if_neg (by omega)]; rfl⟩
  | i + 1, hi => by
    obtain ⟨h1, h2⟩ := sel_at h j i (by omega)
    obtain ⟨l1, l2⟩ := sel_len h i (by omega)
    rw [show selL S.keep S.L S.N (i + 1) = if keptB S.keep i = true then setAt (selL S.keep S.L S.N i) i (secAt S.N i) else selL S.keep S.L S.N i from rfl, show selN S.keep S.L S.N (i + 1) = if keptB S.keep i = true then selN S.keep S.L S.N i else setAt (selN S.keep S.L S.N i) i (secAt S.L i) from rfl]
    rcases hk : keptB S.keep i with _ | _
    · rw [if_neg Bool.false_ne_true, if_neg Bool.false_ne_true, secAt_set l2 (by omega) (secAt_len h.l (by omega)), h1, h2]
      constructor
      · by_cases e : j = i
        · subst e; rw [if_neg (by omega), if_neg (by rw [hk]; simp)]
        · congr 1; apply propext; constructor <;> rintro ⟨a, b⟩ <;> exact ⟨by omega, b⟩
      · by_cases e : j = i
        · subst e; rw [if_pos rfl, if_pos ⟨by omega, hk⟩]
        · rw [if_neg e]; congr 1; apply propext; constructor <;> rintro ⟨a, b⟩ <;> exact ⟨by omega, b⟩
    · rw [if_pos (rfl : true = true), if_pos (rfl : true = true), secAt_set l1 (by omega) (secAt_len h.n (by omega)), h1, h2]
      constructor
      · by_cases e : j = i
        · subst e; rw [if_pos rfl, if_pos ⟨by omega, hk⟩]
        · rw [if_neg e]; congr 1; apply propext; constructor <;> rintro ⟨a, b⟩ <;> exact ⟨by omega, b⟩
      · by_cases e : j = i
        · subst e; rw [if_neg (by omega), if_neg (by rw [hk]; simp)]
        · congr 1; apply propext; constructor <;> rintro ⟨a, b⟩ <;> exact ⟨by omega, b⟩
theorem open_up (h : Dn p S) : Up p (openP p { S with M := S.M.map fallB }) := by
  refine ⟨⟨by show (S.M.map fallB).length = _; rw [List.length_map]; exact h.shp.m, (sel_len h.shp _ (Nat.le_refl _)).1, (sel_len h.shp _ (Nat.le_refl _)).2⟩, fun i hi => ?_⟩
  show BUp _ _ ((S.M.map fallB).getD i _) (secAt (selL S.keep S.L S.N p.bl) i) (secAt (selN S.keep S.L S.N p.bl) i)
  rw [getD_map (by rw [h.shp.m]; exact hi), (sel_at h.shp i p.bl (Nat.le_refl _)).1, (sel_at h.shp i p.bl (Nat.le_refl _)).2]
  obtain ⟨l, o, e, h2, h3, h4, h5⟩ := (h.all i hi).ex
  rw [e]
  rcases hk : keptB S.keep i with _ | _
  · rw [if_neg (by simp), if_pos ⟨hi, rfl⟩]; exact ⟨l, true, rfl, h2, h3, h5, h5, fun e => by (cases e), fun _ => rfl⟩
  · rw [if_pos ⟨hi, rfl⟩, if_neg (by simp)]; exact ⟨l, true, rfl, h2, h3, h4, h4, fun e => by (cases e), fun _ => rfl⟩
theorem rise_well (h : Dn p S) : Well p S (riseP p S).1 (riseP p S).2 (Up p (riseP p S).2) := by
  rcases look_well (open_up h) p.bl with ⟨h1, h2, h3⟩ | g
  · exact .inl ⟨h1, h2, h3⟩
  · exact .inr g
/-- an act: if it was well the power is on or off, acs told -/
def Does (p : Par) (S : St) (r : Bool × Bool × St) : Prop := Well p S r.1 r.2.2 (Dn p r.2.2 ∧ (r.2.1 = false → Up p r.2.2))
theorem does_up {r : St} {d : Bool} (h : Up p r) (hl : r.lied = S.lied) : Does p S (true, d, r) := .inl ⟨rfl, hl, h.dn, fun _ => h⟩
theorem write_well (h : Up p S) (k : Nat) {s : List UInt8} (hs : s.length = 64) (ho : p.at' ≠ 0 → s ≠ p.odd) : Does p S (writeP p S k s) := by
  unfold writeP
  by_cases hk : p.bl ≤ k
  · rw [if_pos hk]
    rcases hl : lieB p S with _ | _
    · exact does_up (lie_up h) (lie_no hl)
    · exact .inr ⟨rfl, lie_yes hl, lie_at hl⟩
  · rw [if_neg hk]
    have hk' : k < p.bl := by omega
    rcases hl : lieB p S with _ | _
    · rw [if_neg (by decide)]
      split
      · exact does_up (lie_up h) (lie_no hl)
      · refine .inl ⟨rfl, lie_no hl, ?_⟩
        obtain ⟨l, o, e, h2, h3, h4, h5, h6, h7⟩ := (h.all k hk').ex
        have hset : ∀ N' : List UInt8, N'.length = 64 * p.bl → (∀ j, secAt N' j = secAt S.N j ∨ j = k ∧ secAt N' j = s) →
            Dn p { powS (lieS p S) with N := N', M := S.M.set k ((S.M.getD k ([], false)).1 ++ s, false) } := by
          intro N' hN hj
          refine ⟨⟨by show (S.M.set k _).length = _; rw [List.length_set]; exact h.shp.m, h.shp.l, hN⟩, fun i hi => ?_⟩
          show BDn _ _ ((S.M.set k _).getD i _) (secAt S.L i) (secAt N' i)
          rw [getD_set (by rw [h.shp.m]; exact hk')]
          by_cases ei : i = k
          · subst ei
            rw [if_pos rfl, e]
            refine ⟨l ++ [s], false, by simp, ?_, ?_, ?_, by simp [h5]⟩
            · intro x hx; rcases List.mem_append.1 hx with hx | hx
              · exact h2 x hx
              · rw [List.mem_singleton] at hx; subst hx; exact hs
            · intro hq hm; rcases List.mem_append.1 hm with hm | hm
              · exact h3 hq hm
              · rw [List.mem_singleton] at hm; exact ho hq hm.symm
            · rcases hj i with e2 | ⟨_, e2⟩
              · rw [e2]; simp [h4]
              · rw [e2]; simp
          · rw [if_neg ei]
            rcases hj i with e2 | ⟨e2, _⟩
            · rw [e2]; exact (h.all i hi).dn
            · exact absurd e2 ei
        have hs1 := setAt_len h.shp.n hk' hs
        have hs2 : ∀ j, secAt (setAt S.N k s) j = secAt S.N j ∨ j = k ∧ secAt (setAt S.N k s) j = s := by
          intro j; rw [secAt_set h.shp.n hk' hs]; by_cases ej : j = k
          · rw [if_pos ej]; exact .inr ⟨ej, rfl⟩
          · rw [if_neg ej]; exact .inl rfl
        refine ⟨hset _ (by split; exact hs1; exact h.shp.n) (by split; exact hs2; exact fun _ => .inl rfl), fun hd => ?_⟩
        have hd' : powD S = false := hd
        refine ⟨(hset _ (by split; exact hs1; exact h.shp.n) (by split; exact hs2; exact fun _ => .inl rfl)).shp, fun i hi => ?_⟩
        show BUp _ _ ((S.M.set k _).getD i _) (secAt S.L i) (secAt (if !powD S || decide (S.keep % 2 = 1) then setAt S.N k s else S.N) i)
        rw [hd', Bool.not_false, Bool.true_or, if_pos rfl, getD_set (by rw [h.shp.m]; exact hk'), secAt_set h.shp.n hk' hs]
        by_cases ei : i = k
        · subst ei
          rw [if_pos rfl, if_pos rfl, e]
          refine ⟨l ++ [s], false, by simp, ?_, ?_, by simp, by simp [h5], fun _ => ⟨l, rfl⟩, fun e => by cases e⟩
          · intro x hx; rcases List.mem_append.1 hx with hx | hx
            · exact h2 x hx
            · rw [List.mem_singleton] at hx; subst hx; exact hs
          · intro hq hm; rcases List.mem_append.1 hm with hm | hm
            · exact h3 hq hm
            · rw [List.mem_singleton] at hm; exact ho hq hm.symm
        · rw [if_neg ei, if_neg ei]; exact h.all i hi
    · rw [if_pos rfl]; exact .inr ⟨rfl, lie_yes hl, lie_at hl⟩
theorem flushT_dn (h : Dn p S) : Dn p (flushT S) := by
  refine ⟨⟨h.shp.m, ?_, h.shp.n⟩, fun i hi => ?_⟩
  · show (if _ then S.N else S.L).length = _; split; exact h.shp.n; exact h.shp.l
  · show BDn _ _ (S.M.getD i _) (secAt (if _ then S.N else S.L) i) (secAt S.N i)
    split
    · obtain ⟨l, o, h1, h2, h3, h4, h5⟩ := (h.all i hi).ex; exact ⟨l, o, h1, h2, h3, h4, h4⟩
    · exact h.all i hi
theorem flush_well (h : Up p S) : Does p S (flushP S) := by
  refine .inl ⟨rfl, rfl, ?_, ?_⟩
  · unfold flushP
    rcases hd : powD S with _ | _
    · have hu : Up p { flushT S with M := S.M.map flushB } := ?_
      · exact hu.dn
      · refine ⟨⟨by show (S.M.map flushB).length = _; rw [List.length_map]; exact h.shp.m, (flushT_dn h.dn).shp.l, h.shp.n⟩, fun i hi => ?_⟩
        show BUp _ _ ((S.M.map flushB).getD i _) (secAt (if !powD S || _ then S.N else S.L) i) (secAt S.N i)
        rw [getD_map (by rw [h.shp.m]; exact hi), hd, Bool.not_false, Bool.true_or, if_pos rfl]
        obtain ⟨l, o, e, h2, h3, h4, h5, h6, h7⟩ := (h.all i hi).ex
        rw [e]
        unfold flushB
        cases o with
        | true => rw [if_pos rfl]; exact ⟨l, true, rfl, h2, h3, h4, h4, fun e => by (cases e), fun _ => rfl⟩
        | false =>
          obtain ⟨l', rfl⟩ := h6 rfl
          rw [if_neg (by simp), flat_last h2]
          exact ⟨[secAt S.N i], false, by simp, fun x hx => by rw [List.mem_singleton] at hx; subst hx; exact h2 _ (by simp), fun hq hm => by rw [List.mem_singleton] at hm; exact h3 hq (by rw [hm]; simp), by simp, by simp, fun _ => ⟨[], rfl⟩, fun e => by (cases e)⟩
    · exact flushT_dn h.dn
  · intro hd
    have hd : powD S = false := hd
    unfold flushP
    refine ⟨⟨?_, (flushT_dn h.dn).shp.l, h.shp.n⟩, fun i hi => ?_⟩
    · show (if powD S then S.M else S.M.map flushB).length = _
      rw [hd, if_neg (by decide), List.length_map]; exact h.shp.m
    · show BUp _ _ ((if powD S then S.M else S.M.map flushB).getD i _) (secAt (if !powD S || _ then S.N else S.L) i) (secAt S.N i)
      rw [hd, if_neg (by decide), getD_map (by rw [h.shp.m]; exact hi), Bool.not_false, Bool.true_or, if_pos rfl]
      obtain ⟨l, o, e, h2, h3, h4, h5, h6, h7⟩ := (h.all i hi).ex
      rw [e]
      unfold flushB
      cases o with
      | true => rw [if_pos rfl]; exact ⟨l, true, rfl, h2, h3, h4, h4, fun e => by (cases e), fun _ => rfl⟩
      | false =>
        obtain ⟨l', rfl⟩ := h6 rfl
        rw [if_neg (by simp), flat_last h2]
        exact ⟨[secAt S.N i], false, by simp, fun x hx => by rw [List.mem_singleton] at hx; subst hx; exact h2 _ (by simp), fun hq hm => by rw [List.mem_singleton] at hm; exact h3 hq (by rw [hm]; simp), by simp, by simp, fun _ => ⟨[], rfl⟩, fun e => by (cases e)⟩
theorem up_eq {S' : St} (h : Up p S) (h1 : S'.M = S.M) (h2 : S'.L = S.L) (h3 : S'.N = S.N) : Up p S' := ⟨⟨h1 ▸ h.shp.m, h2 ▸ h.shp.l, h3 ▸ h.shp.n⟩, fun i hi => by rw [h1, h2, h3]; exact h.all i hi⟩
theorem dn_eq {S' : St} (h : Dn p S) (h1 : S'.M = S.M) (h2 : S'.L = S.L) (h3 : S'.N = S.N) : Dn p S' := ⟨⟨h1 ▸ h.shp.m, h2 ▸ h.shp.l, h3 ▸ h.shp.n⟩, fun i hi => by rw [h1, h2, h3]; exact h.all i hi⟩
theorem does_well (h : Up p S) {a : Act} (hs : a.s.length = 64) (ho : p.at' ≠ 0 → a.s ≠ p.odd) : Does p S (doesP p S a) := by
  unfold doesP
  split
  · exact write_well h _ hs ho
  split
  · rcases read_well h a.b.toNat with ⟨h1, h2, h3⟩ | ⟨h1, h2⟩
    · exact .inl ⟨h1, h2, h3.dn, fun _ => h3⟩
    · exact .inr ⟨h1, h2⟩
  split
  · exact flush_well h
  split
  · unfold stepP
    rcases hl : lieB p S with _ | _
    · split
      · exact does_up (lie_up h) (lie_no hl)
      · rw [if_neg (by decide)]
        exact does_up (up_eq h rfl rfl rfl) (lie_no hl)
    · split
      · exact .inr ⟨rfl, lie_yes hl, lie_at hl⟩
      · exact .inr ⟨rfl, lie_yes hl, lie_at hl⟩
  split
  · unfold addP
    split
    · exact does_up h rfl
    split
    · exact does_up h rfl
    rcases hl : lieB p S with _ | _
    · exact does_up (up_eq h rfl rfl rfl) (lie_no hl)
    · exact .inr ⟨rfl, lie_yes hl, lie_at hl⟩
  split
  · exact .inl ⟨rfl, rfl, dn_eq h.dn rfl rfl rfl, fun e => by cases e⟩
  split
  · exact does_up (up_eq h rfl rfl rfl) rfl
  split
  · exact .inl ⟨rfl, rfl, dn_eq (flushT_dn h.dn) rfl rfl rfl, fun e => by cases e⟩
  · exact does_up h rfl
theorem act_well (h : Up p S) {a : Act} (hs : a.s.length = 64) (ho : p.at' ≠ 0 → a.s ≠ p.odd) : Well p S (actP p S a).1 (actP p S a).2 (Up p (actP p S a).2) := by
  unfold actP
  rcases does_well h hs ho with ⟨h1, h2, h3, h4⟩ | ⟨h1, h2, h3⟩
  · rw [if_pos h1]
    rcases hd : (doesP p S a).2.1 with _ | _
    · rw [if_neg (by decide)]; exact .inl ⟨rfl, h2, h4 hd⟩
    · rw [if_pos rfl]
      rcases rise_well h3 with ⟨g1, g2, g3⟩ | g
      · exact .inl ⟨g1, g2.trans h2, g3⟩
      · exact .inr g
  · rw [if_neg (by rw [h1]; decide)]; exact .inr ⟨rfl, h2, h3⟩
theorem run_well (h : Up p S) {acs : List Act} (ho : ∀ a ∈ acs, a.s.length = 64 ∧ (p.at' ≠ 0 → a.s ≠ p.odd)) : ∀ k, k ≤ acs.length → Well p S (runP p S acs k).1 (runP p S acs k).2 (Up p (runP p S acs k).2)
  | 0, _ => .inl ⟨rfl, rfl, h⟩
  | k + 1, hk => by
    unfold runP
    rcases run_well h ho k (by omega) with ⟨h1, h2, h3⟩ | ⟨h1, h2, h3⟩
    · rw [if_pos h1]
      have ha : acs.getD k (a0 0) ∈ acs := by rw [List.getD_eq_getElem?_getD, List.getElem?_eq_getElem (by omega : k < acs.length)]; exact List.getElem_mem _
      rcases act_well h3 (ho _ ha).1 (ho _ ha).2 with ⟨g1, g2, g3⟩ | g
      · exact .inl ⟨g1, g2.trans h2, g3⟩
      · exact .inr g
    · rw [if_neg (by rw [h1]; decide)]; exact .inr ⟨h1, h2, h3⟩
theorem new_up (nd keep : Nat) (hz : p.at' ≠ 0 → p.odd ≠ z64b) : Up p (newS p nd keep) := by
  refine ⟨⟨by simp [newS], by simp [newS], by simp [newS]⟩, fun i hi => ?_⟩
  show BUp _ _ ((List.replicate p.bl (z64b, false)).getD i _) (secAt (List.replicate (64 * p.bl) 0) i) (secAt (List.replicate (64 * p.bl) 0) i)
  rw [secAt_zero hi, List.getD_eq_getElem?_getD, List.getElem?_replicate, if_pos hi]
  exact ⟨[z64b], false, by simp, fun x hx => by rw [List.mem_singleton] at hx; subst hx; rfl, fun hq hm => hz hq (List.mem_singleton.1 hm), by simp, by simp, fun _ => ⟨[], rfl⟩, fun e => by cases e⟩
/-- what a run answers: all well just if the toy did not lie -/
theorem run_law (nd keep : Nat) {acs : List Act} (ho : ∀ a ∈ acs, a.s.length = 64 ∧ (p.at' ≠ 0 → a.s ≠ p.odd)) (hz : p.at' ≠ 0 → p.odd ≠ z64b) {n : Nat} {ok : Bool} {E : St} (h : RunIs p (newS p nd keep) acs n ok E) :
    n ≤ acs.length ∧ ok = !E.lied ∧ (ok = true → n = acs.length) ∧ (p.at' = 0 → ok = true) := by
  have hw := run_well (new_up nd keep hz) ho
  rcases h with ⟨h1, rfl, h3, h4, rfl⟩ | ⟨rfl, h2, h3⟩
  · rcases hw (n + 1) h1 with ⟨g, _⟩ | ⟨_, g2, g3⟩
    · rw [h4] at g; cases g
    · exact ⟨by omega, by rw [g2]; rfl, fun e => by (cases e), fun e => absurd e g3⟩
  · rcases hw acs.length (Nat.le_refl _) with ⟨_, g2, g3⟩ | ⟨g, _⟩
    · have := look_well g3 p.bl
      rw [h3] at this
      rcases this with ⟨f1, f2, _⟩ | ⟨f1, f2, f3⟩
      · refine ⟨Nat.le_refl _, ?_, fun _ => rfl, fun _ => f1⟩
        have f1 : ok = true := f1
        have f2 : E.lied = (runP p (newS p nd keep) acs acs.length).2.lied := f2
        rw [f1, f2, g2]; rfl
      · have f1 : ok = false := f1
        have f2 : E.lied = true := f2
        exact ⟨Nat.le_refl _, by rw [f1, f2]; rfl, fun _ => rfl, fun e => absurd e f3⟩
    · rw [h2] at g; cases g
/-- the acts up to the wrong one do the same -/
theorem run_take {acs : List Act} (n : Nat) : ∀ k, k ≤ n → runP p S (acs.take n) k = runP p S acs k
  | 0, _ => rfl
  | k + 1, hk => by
    unfold runP
    rw [run_take n k (by omega)]
    have : (acs.take n).getD k (a0 0) = acs.getD k (a0 0) := by
      rw [List.getD_eq_getElem?_getD, List.getD_eq_getElem?_getD, List.getElem?_take_of_lt (by omega)]
    rw [this]
theorem run_down {acs : List Act} {k : Nat} (h : (runP p S acs k).1 = false) : ∀ j, k ≤ j → (runP p S acs j).1 = false
  | 0, hj => by have : k = 0 := by omega
                subst this; exact h
  | j + 1, hj => by
    by_cases e : k = j + 1
    · subst e; exact h
    · have := run_down h j (by omega)
      unfold runP; rw [if_neg (by rw [this]; decide)]; exact this
theorem run_first {acs : List Act} {n : Nat} {E : St} (h : RunIs p S acs n false E) (hn : n < acs.length) {k : Nat} {is : Bool} {E' : St} (h' : RunIs p S (acs.take (n + 1)) k is E') : is = false ∧ k = n := by
  rcases h with ⟨h1, _, h3, h4, rfl⟩ | ⟨rfl, _⟩
  · have hl : (acs.take (n + 1)).length = n + 1 := by rw [List.length_take]; omega
    rcases h' with ⟨g1, g2, g3, g4, _⟩ | ⟨rfl, g2, _⟩
    · rw [hl] at g1
      rw [run_take _ _ (by omega)] at g3 g4
      refine ⟨g2, ?_⟩
      by_cases hk : k < n
      · have := run_down g4 n (by omega); rw [h3] at this; cases this
      · omega
    · rw [hl, run_take _ _ (Nat.le_refl _), h4] at g2; cases g2
  · omega
end
end Go.Proofs.Ytmcgfnfhpcddlaa


/- How large the numbers of a run become; for scripts that may be. -/
namespace Go.Proofs.Ytmcgfnfhpcddlaa
open Go.BW
structure Bd (S : St) (c : Nat) : Prop where
  ar : S.ar ≤ 1000
  ag : S.again ≤ 1000
  nd : 1 ≤ S.nd ∧ S.nd ≤ 30
  cl : S.calls ≤ c
section
variable {p : Par} {S : St}
theorem Bd.lie {c : Nat} (h : Bd S c) : Bd (lieS p S) (c + 1) := ⟨h.ar, h.ag, h.nd, Nat.succ_le_succ h.cl⟩
theorem Bd.more {c d : Nat} (h : Bd S c) (hd : c ≤ d) : Bd S d := ⟨h.ar, h.ag, h.nd, Nat.le_trans h.cl hd⟩
theorem read_bd {c k : Nat} (h : Bd S c) : Bd (readP p S k).2 (c + 1) := by
  unfold readP; split
  · exact h.lie
  · exact ⟨h.ar, h.ag, h.nd, Nat.succ_le_succ h.cl⟩
theorem look_bd {c : Nat} (h : Bd S c) : ∀ k, Bd (lookP p S k).2 (c + k)
  | 0 => h
  | k + 1 => by
    unfold lookP; split
    · exact read_bd (look_bd h k)
    · exact (look_bd h k).more (by omega)
theorem does_bd {c : Nat} {a : Act} (h : Bd S c) (hr : rightA a = true) : Bd (doesP p S a).2.2 (c + 1) := by
  obtain ⟨h1, _, h3, h4, h5⟩ := rightA_parts hr
  have ha := h.ar; have hg := h.ag; have hn := h.nd; have hc := h.cl
  unfold doesP
  split
  · unfold writeP; split
    · exact h.lie
    split
    · exact h.lie
    split
    · exact h.lie
    · exact ⟨by show S.ar - 1 ≤ 1000; omega, hg, hn, Nat.succ_le_succ hc⟩
  split
  · exact read_bd h
  split
  · exact ⟨by show S.ar - 1 ≤ 1000; omega, hg, hn, by show S.calls ≤ c + 1; omega⟩
  split
  · unfold stepP; split
    · exact h.lie
    split
    · exact h.lie
    · exact ⟨by show S.ar - 1 ≤ 1000; omega, hg, hn, Nat.succ_le_succ hc⟩
  split
  · unfold addP; split
    · exact h.more (by omega)
    split
    · exact h.more (by omega)
    · exact ⟨ha, hg, ⟨by show 1 ≤ S.nd + 1; omega, by show S.nd + 1 ≤ 30; omega⟩, Nat.succ_le_succ hc⟩
  split
  · next k5 k7 =>
    have : a.n ≤ 255 := by unfold mostN at h4; rw [if_neg k5] at h4; exact h4.2
    exact ⟨Nat.zero_le _, by show a.n.toNat ≤ 1000; omega, hn, by show S.calls ≤ c + 1; omega⟩
  split
  · next k5 _ k8 =>
    have : a.n ≤ 255 := by unfold mostN at h4; rw [if_neg k5] at h4; exact h4.2
    exact ⟨by show (max a.at' 1).toNat ≤ 1000; omega, by show a.n.toNat ≤ 1000; omega, hn, by show S.calls ≤ c + 1; omega⟩
  split
  · exact ⟨Nat.zero_le _, hg, hn, by show S.calls ≤ c + 1; omega⟩
  · exact h.more (by omega)
theorem does_dn {a : Act} : (doesP p S a).2.1 = true → (doesP p S a).2.2.ar = 0 := by
  have hp : powD S = true → S.ar - 1 = 0 := fun e => by have := of_decide_eq_true e; omega
  unfold doesP
  split
  · unfold writeP; split
    · intro e; cases e
    split
    · intro e; cases e
    split
    · intro e; cases e
    · exact hp
  split
  · intro e; cases e
  split
  · exact hp
  split
  · unfold stepP; split
    · intro e; cases e
    split
    · intro e; cases e
    · exact hp
  split
  · unfold addP; split
    · intro e; cases e
    split
    · intro e; cases e
    · intro e; cases e
  split
  · intro _; rfl
  split
  · intro e; cases e
  split
  · intro _; rfl
  · intro e; cases e
theorem rise_bd {c : Nat} (h : Bd S c) : Bd (riseP p S).2 (c + p.bl) := by
  have hg := h.ag
  exact look_bd (S := openP p { S with M := S.M.map Md.fallB }) ⟨by show S.again - 1 ≤ 1000; omega, Nat.zero_le _, h.nd, h.cl⟩ p.bl
theorem act_bd {c : Nat} {a : Act} (h : Bd S c) (hr : rightA a = true) : Bd (actP p S a).2 (c + 1 + p.bl) := by
  unfold actP
  split
  · split
    · exact rise_bd (does_bd h hr)
    · exact (does_bd h hr).more (by omega)
  · exact (does_bd h hr).more (by omega)
theorem run_bd {c : Nat} {acs : List Act} (h : Bd S c) (hr : ∀ a ∈ acs, rightA a = true) : ∀ k, k ≤ acs.length → Bd (runP p S acs k).2 (c + k * (1 + p.bl))
  | 0, _ => by rw [Nat.zero_mul]; exact h
  | k + 1, hk => by
    have ih := run_bd h hr k (by omega)
    unfold runP
    split
    · have ha : acs.getD k (a0 0) ∈ acs := by rw [List.getD_eq_getElem?_getD, List.getElem?_eq_getElem (by omega : k < acs.length)]; exact List.getElem_mem _
      exact (act_bd ih (hr _ ha)).more (by rw [Nat.succ_mul]; omega)
    · exact ih.more (by rw [Nat.succ_mul]; omega)
end
end Go.Proofs.Ytmcgfnfhpcddlaa


/- A sector that no act writes: it is found among the first hundred and twenty-one; for scripts that may be. -/
namespace Go.Proofs.Ytmcgfnfhpcddlaa

def unS (n : Nat) : List UInt8 := 117 :: 110 :: UInt8.ofNat n :: List.replicate 61 0
theorem unS_len (n : Nat) : (unS n).length = 64 := by simp [unS]
theorem unS_inj {m n : Nat} (hm : m < 256) (hn : n < 256) (h : unS m = unS n) : m = n := by
  have h2 := congrArg (fun l : List UInt8 => l[2]?) h
  simp only [unS, List.getElem?_cons_succ, List.getElem?_cons_zero, Option.some.injEq] at h2
  have h3 := congrArg UInt8.toNat h2
  simp at h3
  omega
theorem pigeon {α : Type} [DecidableEq α] : ∀ (l m : List α), l.Nodup → (∀ x ∈ l, x ∈ m) → l.length ≤ m.length
  | [], _, _, _ => Nat.zero_le _
  | a :: l, m, hn, h => by
    have ha := h a (List.mem_cons_self ..)
    obtain ⟨h1, h2⟩ := List.nodup_cons.1 hn
    have := pigeon l (m.erase a) h2 (fun x hx => (List.mem_erase_of_ne (by rintro rfl; exact h1 hx)).2 (h x (List.mem_cons_of_mem _ hx)))
    rw [List.length_erase_of_mem ha] at this
    have hp := List.length_pos_of_mem ha
    rw [List.length_cons]; omega
theorem un_few {acts : List Act} {n : Nat} (hl : acts.length ≤ 120) (hn : n ≤ 120) (h : ∀ m, m ≤ n → ∃ a ∈ acts, a.s = unS m) : n + 1 ≤ 120 := by
  have := pigeon ((List.range (n + 1)).map unS) (acts.map (·.s)) (by
    rw [List.nodup_iff_pairwise_ne, List.pairwise_map]
    refine List.Pairwise.imp_of_mem (R := fun a b => a < b) (fun ha hb hab e => ?_) List.pairwise_lt_range
    rw [List.mem_range] at ha hb
    have := unS_inj (by omega) (by omega) e
    omega) (fun x hx => by
    obtain ⟨m, hm, rfl⟩ := List.mem_map.1 hx
    rw [List.mem_range] at hm
    obtain ⟨a, ha, e⟩ := h m (by omega)
    exact List.mem_map.2 ⟨a, ha, e⟩)
  simp at this
  omega
theorem unS_not0 (n : Nat) : unS n ≠ Md.z64b := by
  intro h
  have h2 := congrArg (fun l : List UInt8 => l[0]?) h
  simp [unS, Md.z64b] at h2
/-- whether one of the first acts writes a sector -/
def anyU (acts : List Act) (i : Nat) (s : List UInt8) : Bool := (acts.take i).any (fun a => decide (a.s = s))
theorem anyU_zero (acts : List Act) (s : List UInt8) : anyU acts 0 s = false := by simp [anyU]
theorem anyU_succ {acts : List Act} {i : Nat} {a : Act} (h : acts[i]? = some a) (s : List UInt8) : anyU acts (i + 1) s = (anyU acts i s || decide (a.s = s)) := by
  obtain ⟨hi, rfl⟩ := List.getElem?_eq_some_iff.1 h
  unfold anyU
  rw [List.take_succ_eq_append_getElem hi, List.any_append]
  simp
theorem anyU_all {acts : List Act} {i : Nat} (h : acts.length ≤ i) (s : List UInt8) : anyU acts i s = true ↔ ∃ a ∈ acts, a.s = s := by
  unfold anyU
  rw [List.take_of_length_le h, List.any_eq_true]
  simp
end Go.Proofs.Ytmcgfnfhpcddlaa

