/- What matched keeps in memory: the rows that are given, the map of what is tried, the boxes of the closure's variables; and what each step leaves of it. -/
import Derived.Test.YtobifmndpkjlmaaC
import Derived.Test.YtobifmndpkjlmaaS4
import Derived.Test.YtobifmndpkjlmaaMapI
namespace Go.Proofs.Ytobifmndpkjlmaa
open Go.RowKit Go.BW

/-- one disk's row of groups -/
structure Rw where
  A : Option Addr
  c : Nat
  xs : List Nat
def rwv (r : Rw) : Value := .slice r.A r.xs.length r.c
def nv (x : Nat) : Value := .int .i64 (x : Int)
def GG (rows : List Rw) : List (List Nat) := rows.map (·.xs)
theorem GG_len (rows : List Rw) : (GG rows).length = rows.length := by simp [GG]
theorem GG_at {rows : List Rw} {d : Nat} {r : Rw} (h : rows[d]? = some r) : (GG rows).getD d [] = r.xs := by
  unfold GG; simp [List.getD_eq_getElem?_getD, h]
theorem GG_set (rows : List Rw) (d : Nat) (r : Rw) : GG (rows.set d r) = (GG rows).set d r.xs := by
  unfold GG; rw [List.map_set]
theorem splice_one {α : Type} (L : List α) (d : Nat) (v : α) (h : d < L.length) : splice L d [v] = L.set d v := by
  unfold splice
  rw [List.set_eq_take_append_cons_drop, if_pos h]
  rfl
structure GivM (w : World) (base gO : Nat) (rows : List Rw) : Prop where
  own : Own w base 22 1 (some ⟨gO, 0, none⟩) rows.length rows.length (rows.map rwv)
  inner : ∀ r ∈ rows, Own w base 3 1 r.A r.xs.length r.c (r.xs.map nv)
  apart : ∀ (i j : Nat) (r s : Rw), i ≠ j → rows[i]? = some r → rows[j]? = some s → ∀ g, (rwv r).ownBlock = some g → (rwv s).ownBlock ≠ some g
section
variable {w w' w1 w2 : World} {base gO d : Nat} {rows : List Rw}
theorem GivM.nw (h : GivM w base gO rows) (k : Nw w w') : GivM w' base gO rows := ⟨h.own.nw k, fun r hr => (h.inner r hr).nw k, h.apart⟩
theorem GivM.kept (h : GivM w base gO rows) {x : Nat} (k : w.grownBy w' (some x)) (h0 : ¬ ∃ cur, Obj1 w x 22 cur) (h1 : ¬ ∃ cur, Obj1 w x 3 cur) : GivM w' base gO rows :=
  ⟨h.own.kept k (fun g hg e => by injection hg with hg; subst hg; exact h0 (h.own.rowObj _ e)), fun r hr => (h.inner r hr).kept k (fun g hg e => by injection hg with hg; subst hg; exact h1 ((h.inner r hr).rowObj _ e)), h.apart⟩
theorem GivM.outer (h : GivM w base gO rows) : ∃ cur, Obj1 w gO 22 cur := h.own.obj
/-- a new row in one's place -/
theorem GivM.set (h : GivM w base gO rows) {r r' : Rw} (hr : rows[d]? = some r) (k1 : w.grownBy w1 (rwv r).ownBlock) (hn : Own w1 base 3 1 r'.A r'.xs.length r'.c (r'.xs.map nv))
    (hb : (rwv r').ownBlock = (rwv r).ownBlock ∨ ∃ g, w.heap.size ≤ g ∧ (rwv r').ownBlock = some g)
    (k2 : w1.grownBy w2 (some gO)) (ho : Own w2 base 22 1 (some ⟨gO, 0, none⟩) rows.length rows.length (splice (rows.map rwv) d [rwv r'])) : GivM w2 base gO (rows.set d r') := by
  have hd : d < rows.length := (List.getElem?_eq_some_iff.1 hr).1
  have hrm : r ∈ rows := List.mem_of_getElem? hr
  have hO := h.outer
  have hO1 : ∃ cur, Obj1 w1 gO 22 cur := by
    obtain ⟨cur, hc⟩ := hO
    refine ⟨cur, hc.eq (k1.block gO hc.lt fun e => ?_)⟩
    obtain ⟨cur2, h2⟩ := (h.inner r hrm).rowObj gO e.symm
    exact hc.ne h2 (by decide) rfl
  have hlt : ∀ s ∈ rows, ∀ g, (rwv s).ownBlock = some g → g < w.heap.size := fun s hs g hg => by
    obtain ⟨cur, hc⟩ := (h.inner s hs).rowObj g hg
    exact hc.lt
  have out : ∀ {A : Option Addr} {n c : Nat} {xs : List Value}, Own w1 base 3 1 A n c xs → Own w2 base 3 1 A n c xs := fun hx => hx.kept k2 (fun g hg e => by
    injection hg with hg; subst hg
    obtain ⟨c1, h1⟩ := hO1
    obtain ⟨c2, h2⟩ := hx.rowObj _ e
    exact h1.ne h2 (by decide) rfl)
  refine ⟨?_, ?_, ?_⟩
  · rw [List.length_set, List.map_set]
    have e : splice (rows.map rwv) d [rwv r'] = (rows.map rwv).set d (rwv r') := by
      have := splice_one (rows.map rwv) d (rwv r') (by simpa using hd)
      exact this
    rwa [e] at ho
  · intro s hs
    obtain ⟨j, hj⟩ := List.getElem?_of_mem hs
    rw [List.getElem?_set] at hj
    by_cases hdj : d = j
    · rw [if_pos hdj, if_pos hd] at hj
      injection hj with hj; subst hj
      exact out hn
    · rw [if_neg hdj] at hj
      exact out ((h.inner s (List.mem_of_getElem? hj)).kept k1 (fun g hg e => h.apart d j r s hdj hr hj g hg e))
  · intro i j a b hij ha hb' g hg
    rw [List.getElem?_set] at ha hb'
    by_cases hdi : d = i
    · rw [if_pos hdi, if_pos hd] at ha
      injection ha with ha; subst ha
      rw [if_neg (fun e => hij (by rw [← hdi, e]))] at hb'
      rcases hb with hb | ⟨g', hg', hb⟩
      · rw [hb] at hg
        exact h.apart d j r b (fun e => hij (by rw [← hdi, e])) hr hb' g hg
      · rw [hb] at hg; injection hg with hg; subst hg
        intro e
        have := hlt b (List.mem_of_getElem? hb') _ e
        omega
    · rw [if_neg hdi] at ha
      by_cases hdj : d = j
      · rw [if_pos hdj, if_pos hd] at hb'
        injection hb' with hb'; subst hb'
        rcases hb with hb | ⟨g', hg', hb⟩
        · rw [hb]
          exact h.apart i d a r (fun e => hdi e.symm) ha hr g hg
        · rw [hb]
          intro e; injection e with e; subst e
          have := hlt a (List.mem_of_getElem? ha) _ hg
          omega
      · rw [if_neg hdj] at hb'
        exact h.apart i j a b hij ha hb' g hg
end
/-- the names of matched's blocks -/
structure Pm where
  bR : Nat
  bT : Nat
  bL : Nat
  bG : Nat
  bF : Nat
  mp : Nat
  gO : Nat
  AR : Option Addr
  n : Nat
  cR : Nat
  AL : Option Addr
  nl : Nat
  cL : Nat
def ptr (b : Nat) : Value := .pointer (some ⟨b, 0, none⟩)
def fnv (p : Pm) : Value := .func (.func 46) #[] #[ptr p.bR, ptr p.bT, ptr p.bL, ptr p.bG, ptr p.bF]
structure Bx (w : World) (base : Nat) (p : Pm) (rs : List Int) (gs : List Gp) : Prop where
  hR : Obj1 w p.bR 22 #[.slice p.AR p.n p.cR]
  hT : Obj1 w p.bT 63 #[.map (some p.mp)]
  hL : Obj1 w p.bL 28 #[.slice p.AL p.nl p.cL]
  hG : Obj1 w p.bG 62 #[.slice (some ⟨p.gO, 0, none⟩) p.n p.n]
  hF : Obj1 w p.bF 50 #[fnv p]
  rooms : Rd w base 1 p.AR p.n (rs.map iv)
  groups : GsR w base p.AL p.nl gs
  hB : base ≤ w.heap.size
/-- what each disk's key leads to -/
def mapT (T : Nat → Bool) : Int → Option Value := fun x => if 0 ≤ x ∧ T x.toNat = true then some (.bool true) else none
theorem mapT_at (T : Nat → Bool) (d : Nat) : (mapT T (d : Int)).getD (.bool false) = .bool (T d) := by
  unfold mapT
  cases h : T d <;> simp [h]
theorem mapT_more (T : Nat → Bool) (d : Nat) : (fun z => if z = (d : Int) then some (Value.bool true) else mapT T z) = mapT (more T d) := by
  funext z
  unfold mapT
  by_cases hz : z = (d : Int)
  · subst hz; simp [more]
  · rw [if_neg hz]
    by_cases h0 : 0 ≤ z
    · have : z.toNat ≠ d := by omega
      simp [h0, more_ne this]
    · simp [h0]
theorem mapT_none : (fun _ => none) = mapT (fun _ => false) := by funext z; simp [mapT]
structure GiM (w : World) (base : Nat) (p : Pm) (rs : List Int) (gs : List Gp) (rows : List Rw) (T : Nat → Bool) : Prop where
  bx : Bx w base p rs gs
  map : MapI w p.mp (mapT T)
  giv : GivM w base p.gO rows
  ne : p.bR ≠ p.gO
  len : rows.length = p.n
  mb : base ≤ p.mp
  gb : base ≤ p.gO
section
variable {w w' w1 w2 : World} {base : Nat} {p : Pm} {rs : List Int} {gs : List Gp} {rows : List Rw} {T : Nat → Bool}
theorem Bx.kept (h : Bx w base p rs gs) {row : Option Nat} (k : w.grownBy w' row) (hr : ∀ x, row = some x → base ≤ x ∧ x ≠ p.bR ∧ x ≠ p.bT ∧ x ≠ p.bL ∧ x ≠ p.bG ∧ x ≠ p.bF) : Bx w' base p rs gs := by
  have key : ∀ {g t cs}, Obj1 w g t cs → (∀ x, row = some x → x ≠ g) → Obj1 w' g t cs := fun ho hne => ho.eq (k.block _ ho.lt fun e => hne _ e.symm rfl)
  have hb : Below base w w' := ⟨k.os, k.tape, k.output, k.size, fun i hi => k.block i (Nat.lt_of_lt_of_le hi h.hB) (fun e => by
    have := (hr _ e.symm).1; omega)⟩
  exact ⟨key h.hR fun x e => (hr x e).2.1, key h.hT fun x e => (hr x e).2.2.1, key h.hL fun x e => (hr x e).2.2.2.1, key h.hG fun x e => (hr x e).2.2.2.2.1, key h.hF fun x e => (hr x e).2.2.2.2.2,
    h.rooms.below hb, h.groups.below hb, Nat.le_trans h.hB k.size⟩
theorem Bx.nw (h : Bx w base p rs gs) (k : Nw w w') : Bx w' base p rs gs := h.kept k (by intro x e; cases e)
theorem GiM.nw (h : GiM w base p rs gs rows T) (k : Nw w w') : GiM w' base p rs gs rows T := ⟨h.bx.nw k, h.map.nw k, h.giv.nw k, h.ne, h.len, h.mb, h.gb⟩
theorem Bx.cells (h : Bx w base p rs gs) : w.cell? ⟨p.bR, 0, none⟩ = some (.slice p.AR p.n p.cR) ∧ w.cell? ⟨p.bT, 0, none⟩ = some (.map (some p.mp)) ∧ w.cell? ⟨p.bL, 0, none⟩ = some (.slice p.AL p.nl p.cL) ∧
    w.cell? ⟨p.bG, 0, none⟩ = some (.slice (some ⟨p.gO, 0, none⟩) p.n p.n) ∧ w.cell? ⟨p.bF, 0, none⟩ = some (fnv p) :=
  ⟨h.hR.cell 0, h.hT.cell 0, h.hL.cell 0, h.hG.cell 0, h.hF.cell 0⟩
/-- the map is written -/
theorem GiM.mapped (h : GiM w base p rs gs rows T) {T' : Nat → Bool} (k : w.grownBy w' (some p.mp)) (hm : MapI w' p.mp (mapT T')) : GiM w' base p rs gs rows T' := by
  have ne : ∀ {g t cs}, Obj1 w g t cs → p.mp ≠ g := fun ho => h.map.ne ho
  refine ⟨h.bx.kept k fun x e => ?_, hm, h.giv.kept k ?_ ?_, h.ne, h.len, h.mb, h.gb⟩
  · injection e with e; subst e
    exact ⟨h.mb, ne h.bx.hR, ne h.bx.hT, ne h.bx.hL, ne h.bx.hG, ne h.bx.hF⟩
  · rintro ⟨cur, hc⟩; exact ne hc rfl
  · rintro ⟨cur, hc⟩; exact ne hc rfl
/-- one disk's row is written, and its cell of the outer row -/
theorem GiM.rowed (h : GiM w base p rs gs rows T) {d : Nat} {r r' : Rw} (hr : rows[d]? = some r) (k1 : w.grownBy w1 (rwv r).ownBlock) (hn : Own w1 base 3 1 r'.A r'.xs.length r'.c (r'.xs.map nv))
    (hb : (rwv r').ownBlock = (rwv r).ownBlock ∨ ∃ g, w.heap.size ≤ g ∧ (rwv r').ownBlock = some g)
    (k2 : w1.grownBy w2 (some p.gO)) (ho : Own w2 base 22 1 (some ⟨p.gO, 0, none⟩) rows.length rows.length (splice (rows.map rwv) d [rwv r'])) : GiM w2 base p rs gs (rows.set d r') T := by
  have hrm : r ∈ rows := List.mem_of_getElem? hr
  have hin := h.giv.inner r hrm
  have ne1 : ∀ {x g t cs}, (rwv r).ownBlock = some x → Obj1 w g t cs → t ≠ 3 → x ≠ g := fun hx hg ht => by
    obtain ⟨cur, hc⟩ := hin.rowObj _ hx
    exact hc.ne hg (fun e => ht e.symm)
  have b1 : Bx w1 base p rs gs := h.bx.kept k1 fun x e => ⟨hin.blk x e, ne1 e h.bx.hR (by decide), ne1 e h.bx.hT (by decide), ne1 e h.bx.hL (by decide), ne1 e h.bx.hG (by decide), ne1 e h.bx.hF (by decide)⟩
  obtain ⟨cur, hO⟩ := h.giv.outer
  have hO1 : Obj1 w1 p.gO 22 cur := hO.eq (k1.block _ hO.lt fun e => ne1 e.symm hO (by decide) rfl)
  have m1 : MapI w1 p.mp (mapT T) := h.map.eq (k1.block _ h.map.lt fun e => by
    obtain ⟨cur2, h2⟩ := hin.rowObj _ e.symm
    exact h.map.ne h2 rfl)
  refine ⟨b1.kept k2 fun x e => ?_, m1.eq (k2.block _ m1.lt fun e => by injection e with e; exact m1.ne hO1 e), h.giv.set hr k1 hn hb k2 ho, h.ne, by rw [List.length_set]; exact h.len, h.mb, h.gb⟩
  injection e with e; subst e
  exact ⟨h.gb, fun e => h.ne e.symm, hO1.ne b1.hT (by decide), hO1.ne b1.hL (by decide), hO1.ne b1.hG (by decide), hO1.ne b1.hF (by decide)⟩
/-- one place of one disk's row is written -/
theorem GiM.placed (h : GiM w base p rs gs rows T) {d i g x : Nat} {r : Rw} (hr : rows[d]? = some r) (hA : r.A = some ⟨x, 0, none⟩) (hi : i < r.xs.length) (k1 : w.grownBy w1 (some x))
    (hn : Own w1 base 3 1 r.A r.xs.length r.c (splice (r.xs.map nv) i [nv g])) : GiM w1 base p rs gs (rows.set d ⟨r.A, r.c, r.xs.set i g⟩) T := by
  have hrm : r ∈ rows := List.mem_of_getElem? hr
  have hin := h.giv.inner r hrm
  have hx : (rwv r).ownBlock = some x := by unfold rwv; rw [hA]; rfl
  have e1 : splice (r.xs.map nv) i [nv g] = (r.xs.set i g).map nv := by
    rw [List.map_set]; exact splice_one _ _ _ (by simpa using hi)
  rw [e1] at hn
  have ne1 : ∀ {g t cs}, Obj1 w g t cs → t ≠ 3 → x ≠ g := fun hg ht => by
    obtain ⟨cur, hc⟩ := hin.rowObj _ hx
    exact hc.ne hg (fun e => ht e.symm)
  have b1 : Bx w1 base p rs gs := h.bx.kept k1 fun y e => by
    injection e with e; subst e
    exact ⟨hin.blk x hx, ne1 h.bx.hR (by decide), ne1 h.bx.hT (by decide), ne1 h.bx.hL (by decide), ne1 h.bx.hG (by decide), ne1 h.bx.hF (by decide)⟩
  obtain ⟨cur, hO⟩ := h.giv.outer
  have hd : d < rows.length := (List.getElem?_eq_some_iff.1 hr).1
  have erw : (rwv ⟨r.A, r.c, r.xs.set i g⟩) = rwv r := by unfold rwv; simp
  have erows : (rows.set d ⟨r.A, r.c, r.xs.set i g⟩).map rwv = rows.map rwv := by
    rw [List.map_set, erw]
    refine List.ext_getElem? fun j => ?_
    rw [List.getElem?_set]
    split
    · next hj =>
      subst hj
      simp only [List.length_map, hd, if_true, List.getElem?_map, hr, Option.map_some]
    · rfl
  refine ⟨b1, h.map.eq (k1.block _ h.map.lt fun e => ?_), ⟨?_, ?_, ?_⟩, h.ne, by rw [List.length_set]; exact h.len, h.mb, h.gb⟩
  · injection e with e
    obtain ⟨cur2, h2⟩ := hin.rowObj _ hx
    exact h.map.ne h2 e
  · rw [List.length_set, erows]
    exact h.giv.own.kept k1 (fun y hy e => by
      injection hy with hy; subst hy
      injection e with e
      exact ne1 hO (by decide) e.symm)
  · intro s hs
    obtain ⟨j, hj⟩ := List.getElem?_of_mem hs
    rw [List.getElem?_set] at hj
    by_cases hdj : d = j
    · rw [if_pos hdj, if_pos hd] at hj
      injection hj with hj; subst hj
      simpa using hn
    · rw [if_neg hdj] at hj
      exact (h.giv.inner s (List.mem_of_getElem? hj)).kept k1 (fun y hy e => by
        injection hy with hy; subst hy
        exact h.giv.apart d j r s hdj hr hj _ hx e)
  · intro a b ra rb hab ha hb y hy
    have look : ∀ {a ra}, (rows.set d ⟨r.A, r.c, r.xs.set i g⟩)[a]? = some ra → ∃ rb, rows[a]? = some rb ∧ rwv ra = rwv rb := fun {a ra} h2 => by
      rw [List.getElem?_set] at h2
      split at h2
      · next hj =>
        subst hj
        try rw [if_pos hd] at h2
        injection h2 with h2; subst h2; exact ⟨r, hr, erw⟩
      · exact ⟨ra, h2, rfl⟩
    obtain ⟨ra', h1, e1⟩ := look ha
    obtain ⟨rb', h2, e2⟩ := look hb
    rw [e1] at hy; rw [e2]
    exact h.giv.apart a b ra' rb' hab h1 h2 y hy
end
end Go.Proofs.Ytobifmndpkjlmaa

