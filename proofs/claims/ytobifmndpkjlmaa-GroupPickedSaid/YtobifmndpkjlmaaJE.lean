/- What matched keeps in memory: the rows that are given, the map of what is tried, the boxes of the closure's variables; and what each step leaves of it. -/
import Derived.Test.YtobifmndpkjlmaaJD
import Derived.Test.YtobifmndpkjlmaaJC
import Derived.Test.YtobifmndpkjlmaaJA
import Derived.Deep.DeepCutAuto
import Derived.Carry
set_option linter.unusedVariables false
set_option linter.unusedSimpArgs false
/- What matched keeps in memory: the rows that are given, the map of what is tried, the boxes of the closure's variables; and what each step leaves of it. -/
namespace Go.Proofs.Ytobifmndpkjlmaa
open Go.RowKit Go.BW

/-- one disk's row of groups -/
structure Rw where
  A : Option Addr
  c : Nat
  xs : List Nat
def rwv (r : Rw) : Value := .slice r.A r.xs.length r.c
def nv (x : Nat) : Value := .int .i64 (x : Int)
def GG (rows : List Rw) : List (List Nat) := rows.map (·.xs)
theorem GG_len (rows : List Rw) : (GG rows).length = rows.length := by simp [GG]
theorem GG_at {rows : List Rw} {d : Nat} {r : Rw} (h : rows[d]? = some r) : (GG rows).getD d [] = r.xs := by
  unfold GG; simp [List.getD_eq_getElem?_getD, h]
theorem GG_set (rows : List Rw) (d : Nat) (r : Rw) : GG (rows.set d r) = (GG rows).set d r.xs := by
  unfold GG; rw [List.map_set]
theorem splice_one {α : Type} (L : List α) (d : Nat) (v : α) (h : d < L.length) : splice L d [v] = L.set d v := by
  unfold splice
  rw [List.set_eq_take_append_cons_drop, if_pos h]
  rfl
structure GivM (w : World) (base gO : Nat) (rows : List Rw) : Prop where
  own : Own w base 22 1 (some ⟨gO, 0, none⟩) rows.length rows.length (rows.map rwv)
  inner : ∀ r ∈ rows, Own w base 3 1 r.A r.xs.length r.c (r.xs.map nv)
  apart : ∀ (i j : Nat) (r s : Rw), i ≠ j → rows[i]? = some r → rows[j]? = some s → ∀ g, (rwv r).ownBlock = some g → (rwv s).ownBlock ≠ some g
section
variable {w w' w1 w2 : World} {base gO d : Nat} {rows : List Rw}
theorem GivM.nw (h : GivM w base gO rows) (k : Nw w w') : GivM w' base gO rows := ⟨h.own.nw k, fun r hr => (h.inner r hr).nw k, h.apart⟩
theorem GivM.kept (h : GivM w base gO rows) {x : Nat} (k : w.grownBy w' (some x)) (h0 : ¬ ∃ cur, Obj1 w x 22 cur) (h1 : ¬ ∃ cur, Obj1 w x 3 cur) : GivM w' base gO rows :=
  ⟨h.own.kept k (fun g hg e => by injection hg with hg; subst hg; exact h0 (h.own.rowObj _ e)), fun r hr => (h.inner r hr).kept k (fun g hg e => by injection hg with hg; subst hg; exact h1 ((h.inner r hr).rowObj _ e)), h.apart⟩
theorem GivM.outer (h : GivM w base gO rows) : ∃ cur, Obj1 w gO 22 cur := h.own.obj
/-- a new row in one's place -/
theorem GivM.set (h : GivM w base gO rows) {r r' : Rw} (hr : rows[d]? = some r) (k1 : w.grownBy w1 (rwv r).ownBlock) (hn : Own w1 base 3 1 r'.A r'.xs.length r'.c (r'.xs.map nv))
    (hb : (rwv r').ownBlock = (rwv r).ownBlock ∨ ∃ g, w.heap.size ≤ g ∧ (rwv r').ownBlock = some g)
    (k2 : w1.grownBy w2 (some gO)) (ho : Own w2 base 22 1 (some ⟨gO, 0, none⟩) rows.length rows.length (splice (rows.map rwv) d [rwv r'])) : GivM w2 base gO (rows.set d r') := by
  have hd : d < rows.length := (List.getElem?_eq_some_iff.1 hr).1
  have hrm : r ∈ rows := List.mem_of_getElem? hr
  have hO := h.outer
  have hO1 : ∃ cur, Obj1 w1 gO 22 cur := by
    obtain ⟨cur, hc⟩ := hO
    refine ⟨cur, hc.eq (k1.block gO hc.lt fun e => ?_)⟩
    obtain ⟨cur2, h2⟩ := (h.inner r hrm).rowObj gO e.symm
    exact hc.ne h2 (by decide) rfl
  have hlt : ∀ s ∈ rows, ∀ g, (rwv s).ownBlock = some g → g < w.heap.size := fun s hs g hg => by
    obtain ⟨cur, hc⟩ := (h.inner s hs).rowObj g hg
    exact hc.lt
  have out : ∀ {A : Option Addr} {n c : Nat} {xs : List Value}, Own w1 base 3 1 A n c xs → Own w2 base 3 1 A n c xs := fun hx => hx.kept k2 (fun g hg e => by
    injection hg with hg; subst hg
    obtain ⟨c1, h1⟩ := hO1
    obtain ⟨c2, h2⟩ := hx.rowObj _ e
    exact h1.ne h2 (by decide) rfl)
  refine ⟨?_, ?_, ?_⟩
  · rw [List.length_set, List.map_set]
    have e : splice (rows.map rwv) d [rwv r'] = (rows.map rwv).set d (rwv r') := by
      have := splice_one (rows.map rwv) d (rwv r') (by simpa using hd)
      exact this
    rwa [e] at ho
  · intro s hs
    obtain ⟨j, hj⟩ := List.getElem?_of_mem hs
    rw [List.getElem?_set] at hj
    by_cases hdj : d = j
    · rw [if_pos hdj, if_pos hd] at hj
      injection hj with hj; subst hj
      exact out hn
    · rw [if_neg hdj] at hj
      exact out ((h.inner s (List.mem_of_getElem? hj)).kept k1 (fun g hg e => h.apart d j r s hdj hr hj g hg e))
  · intro i j a b hij ha hb' g hg
    rw [List.getElem?_set] at ha hb'
    by_cases hdi : d = i
    · rw [if_pos hdi, if_pos hd] at ha
      injection ha with ha; subst ha
      rw [if_neg (fun e => hij (by rw [← hdi, e]))] at hb'
      rcases hb with hb | ⟨g', hg', hb⟩
      · rw [hb] at hg
        exact h.apart d j r b (fun e => hij (by rw [← hdi, e])) hr hb' g hg
      · rw [hb] at hg; injection hg with hg; subst hg
        intro e
        have := hlt b (List.mem_of_getElem? hb') _ e
        omega
    · rw [if_neg hdi] at ha
      by_cases hdj : d = j
      · rw [if_pos hdj, if_pos hd] at hb'
        injection hb' with hb'; subst hb'
        rcases hb with hb | ⟨g', hg', hb⟩
        · rw [hb]
          exact h.apart i d a r (fun e => hdi e.symm) ha hr g hg
        · rw [hb]
          intro e; injection e with e; subst e
          have := hlt a (List.mem_of_getElem? ha) _ hg
          omega
      · rw [if_neg hdj] at hb'
        exact h.apart i j a b hij ha hb' g hg
end
/-- the names of matched's blocks -/
structure Pm where
  bR : Nat
  bT : Nat
  bL : Nat
  bG : Nat
  bF : Nat
  mp : Nat
  gO : Nat
  AR : Option Addr
  n : Nat
  cR : Nat
  AL : Option Addr
  nl : Nat
  cL : Nat
def ptr (b : Nat) : Value := .pointer (some ⟨b, 0, none⟩)
def fnv (p : Pm) : Value := .func (.func 46) #[] #[ptr p.bR, ptr p.bT, ptr p.bL, ptr p.bG, ptr p.bF]
structure Bx (w : World) (base : Nat) (p : Pm) (rs : List Int) (gs : List Gp) : Prop where
  hR : Obj1 w p.bR 22 #[.slice p.AR p.n p.cR]
  hT : Obj1 w p.bT 63 #[.map (some p.mp)]
  hL : Obj1 w p.bL 28 #[.slice p.AL p.nl p.cL]
  hG : Obj1 w p.bG 62 #[.slice (some ⟨p.gO, 0, none⟩) p.n p.n]
  hF : Obj1 w p.bF 50 #[fnv p]
  rooms : Rd w base 1 p.AR p.n (rs.map iv)
  groups : GsR w base p.AL p.nl gs
  hB : base ≤ w.heap.size
/-- what each disk's key leads to -/
def mapT (T : Nat → Bool) : Int → Option Value := fun x => if 0 ≤ x ∧ T x.toNat = true then some (.bool true) else none
theorem mapT_at (T : Nat → Bool) (d : Nat) : (mapT T (d : Int)).getD (.bool false) = .bool (T d) := by
  unfold mapT
  cases h : T d <;> simp [h]
theorem mapT_more (T : Nat → Bool) (d : Nat) : (fun z => if z = (d : Int) then some (Value.bool true) else mapT T z) = mapT (more T d) := by
  funext z
  unfold mapT
  by_cases hz : z = (d : Int)
  · subst hz; simp [more]
  · rw [if_neg hz]
    by_cases h0 : 0 ≤ z
    · have : z.toNat ≠ d := by omega
      simp [h0, more_ne this]
    · simp [h0]
theorem mapT_none : (fun _ => none) = mapT (fun _ => false) := by funext z; simp [mapT]
structure GiM (w : World) (base : Nat) (p : Pm) (rs : List Int) (gs : List Gp) (rows : List Rw) (T : Nat → Bool) : Prop where
  bx : Bx w base p rs gs
  map : MapI w p.mp (mapT T)
  giv : GivM w base p.gO rows
  ne : p.bR ≠ p.gO
  len : rows.length = p.n
  mb : base ≤ p.mp
  gb : base ≤ p.gO
section
variable {w w' w1 w2 : World} {base : Nat} {p : Pm} {rs : List Int} {gs : List Gp} {rows : List Rw} {T : Nat → Bool}
theorem Bx.kept (h : Bx w base p rs gs) {row : Option Nat} (k : w.grownBy w' row) (hr : ∀ x, row = some x → base ≤ x ∧ x ≠ p.bR ∧ x ≠ p.bT ∧ x ≠ p.bL ∧ x ≠ p.bG ∧ x ≠ p.bF) : Bx w' base p rs gs := by
  have key : ∀ {g t cs}, Obj1 w g t cs → (∀ x, row = some x → x ≠ g) → Obj1 w' g t cs := fun ho hne => ho.eq (k.block _ ho.lt fun e => hne _ e.symm rfl)
  have hb : Below base w w' := ⟨k.os, k.tape, k.output, k.size, fun i hi => k.block i (Nat.lt_of_lt_of_le hi h.hB) (fun e => by
    have := (hr _ e.symm).1; omega)⟩
  exact ⟨key h.hR fun x e => (hr x e).2.1, key h.hT fun x e => (hr x e).2.2.1, key h.hL fun x e => (hr x e).2.2.2.1, key h.hG fun x e => (hr x e).2.2.2.2.1, key h.hF fun x e => (hr x e).2.2.2.2.2,
    h.rooms.below hb, h.groups.below hb, Nat.le_trans h.hB k.size⟩
theorem Bx.nw (h : Bx w base p rs gs) (k : Nw w w') : Bx w' base p rs gs := h.kept k (by intro x e; cases e)
theorem GiM.nw (h : GiM w base p rs gs rows T) (k : Nw w w') : GiM w' base p rs gs rows T := ⟨h.bx.nw k, h.map.nw k, h.giv.nw k, h.ne, h.len, h.mb, h.gb⟩
theorem Bx.cells (h : Bx w base p rs gs) : w.cell? ⟨p.bR, 0, none⟩ = some (.slice p.AR p.n p.cR) ∧ w.cell? ⟨p.bT, 0, none⟩ = some (.map (some p.mp)) ∧ w.cell? ⟨p.bL, 0, none⟩ = some (.slice p.AL p.nl p.cL) ∧
    w.cell? ⟨p.bG, 0, none⟩ = some (.slice (some ⟨p.gO, 0, none⟩) p.n p.n) ∧ w.cell? ⟨p.bF, 0, none⟩ = some (fnv p) :=
  ⟨h.hR.cell 0, h.hT.cell 0, h.hL.cell 0, h.hG.cell 0, h.hF.cell 0⟩
/-- the map is written -/
theorem GiM.mapped (h : GiM w base p rs gs rows T) {T' : Nat → Bool} (k : w.grownBy w' (some p.mp)) (hm : MapI w' p.mp (mapT T')) : GiM w' base p rs gs rows T' := by
  have ne : ∀ {g t cs}, Obj1 w g t cs → p.mp ≠ g := fun ho => h.map.ne ho
  refine ⟨h.bx.kept k fun x e => ?_, hm, h.giv.kept k ?_ ?_, h.ne, h.len, h.mb, h.gb⟩
  · injection e with e; subst e
    exact ⟨h.mb, ne h.bx.hR, ne h.bx.hT, ne h.bx.hL, ne h.bx.hG, ne h.bx.hF⟩
  · rintro ⟨cur, hc⟩; exact ne hc rfl
  · rintro ⟨cur, hc⟩; exact ne hc rfl
/-- one disk's row is written, and its cell of the outer row -/
theorem GiM.rowed (h : GiM w base p rs gs rows T) {d : Nat} {r r' : Rw} (hr : rows[d]? = some r) (k1 : w.grownBy w1 (rwv r).ownBlock) (hn : Own w1 base 3 1 r'.A r'.xs.length r'.c (r'.xs.map nv))
    (hb : (rwv r').ownBlock = (rwv r).ownBlock ∨ ∃ g, w.heap.size ≤ g ∧ (rwv r').ownBlock = some g)
    (k2 : w1.grownBy w2 (some p.gO)) (ho : Own w2 base 22 1 (some ⟨p.gO, 0, none⟩) rows.length rows.length (splice (rows.map rwv) d [rwv r'])) : GiM w2 base p rs gs (rows.set d r') T := by
  have hrm : r ∈ rows := List.mem_of_getElem? hr
  have hin := h.giv.inner r hrm
  have ne1 : ∀ {x g t cs}, (rwv r).ownBlock = some x → Obj1 w g t cs → t ≠ 3 → x ≠ g := fun hx hg ht => by
    obtain ⟨cur, hc⟩ := hin.rowObj _ hx
    exact hc.ne hg (fun e => ht e.symm)
  have b1 : Bx w1 base p rs gs := h.bx.kept k1 fun x e => ⟨hin.blk x e, ne1 e h.bx.hR (by decide), ne1 e h.bx.hT (by decide), ne1 e h.bx.hL (by decide), ne1 e h.bx.hG (by decide), ne1 e h.bx.hF (by decide)⟩
  obtain ⟨cur, hO⟩ := h.giv.outer
  have hO1 : Obj1 w1 p.gO 22 cur := hO.eq (k1.block _ hO.lt fun e => ne1 e.symm hO (by decide) rfl)
  have m1 : MapI w1 p.mp (mapT T) := h.map.eq (k1.block _ h.map.lt fun e => by
    obtain ⟨cur2, h2⟩ := hin.rowObj _ e.symm
    exact h.map.ne h2 rfl)
  refine ⟨b1.kept k2 fun x e => ?_, m1.eq (k2.block _ m1.lt fun e => by injection e with e; exact m1.ne hO1 e), h.giv.set hr k1 hn hb k2 ho, h.ne, by rw [List.length_set]; exact h.len, h.mb, h.gb⟩
  injection e with e; subst e
  exact ⟨h.gb, fun e => h.ne e.symm, hO1.ne b1.hT (by decide), hO1.ne b1.hL (by decide), hO1.ne b1.hG (by decide), hO1.ne b1.hF (by decide)⟩
/-- one place of one disk's row is written -/
theorem GiM.placed (h : GiM w base p rs gs rows T) {d i g x : Nat} {r : Rw} (hr : rows[d]? = some r) (hA : r.A = some ⟨x, 0, none⟩) (hi : i < r.xs.length) (k1 : w.grownBy w1 (some x))
    (hn : Own w1 base 3 1 r.A r.xs.length r.c (splice (r.xs.map nv) i [nv g])) : GiM w1 base p rs gs (rows.set d ⟨r.A, r.c, r.xs.set i g⟩) T := by
  have hrm : r ∈ rows := List.mem_of_getElem? hr
  have hin := h.giv.inner r hrm
  have hx : (rwv r).ownBlock = some x := by unfold rwv; rw [hA]; rfl
  have e1 : splice (r.xs.map nv) i [nv g] = (r.xs.set i g).map nv := by
    rw [List.map_set]; exact splice_one _ _ _ (by simpa using hi)
  rw [e1] at hn
  have ne1 : ∀ {g t cs}, Obj1 w g t cs → t ≠ 3 → x ≠ g := fun hg ht => by
    obtain ⟨cur, hc⟩ := hin.rowObj _ hx
    exact hc.ne hg (fun e => ht e.symm)
  have b1 : Bx w1 base p rs gs := h.bx.kept k1 fun y e => by
    injection e with e; subst e
    exact ⟨hin.blk x hx, ne1 h.bx.hR (by decide), ne1 h.bx.hT (by decide), ne1 h.bx.hL (by decide), ne1 h.bx.hG (by decide), ne1 h.bx.hF (by decide)⟩
  obtain ⟨cur, hO⟩ := h.giv.outer
  have hd : d < rows.length := (List.getElem?_eq_some_iff.1 hr).1
  have erw : (rwv ⟨r.A, r.c, r.xs.set i g⟩) = rwv r := by unfold rwv; simp
  have erows : (rows.set d ⟨r.A, r.c, r.xs.set i g⟩).map rwv = rows.map rwv := by
    rw [List.map_set, erw]
    refine List.ext_getElem? fun j => ?_
    rw [List.getElem?_set]
    split
    · next hj =>
      subst hj
      simp only [List.length_map, hd, if_true, List.getElem?_map, hr, Option.map_some]
    · rfl
  refine ⟨b1, h.map.eq (k1.block _ h.map.lt fun e => ?_), ⟨?_, ?_, ?_⟩, h.ne, by rw [List.length_set]; exact h.len, h.mb, h.gb⟩
  · injection e with e
    obtain ⟨cur2, h2⟩ := hin.rowObj _ hx
    exact h.map.ne h2 e
  · rw [List.length_set, erows]
    exact h.giv.own.kept k1 (fun y hy e => by
      injection hy with hy; subst hy
      injection e with e
      exact ne1 hO (by decide) e.symm)
  · intro s hs
    obtain ⟨j, hj⟩ := List.getElem?_of_mem hs
    rw [List.getElem?_set] at hj
    by_cases hdj : d = j
    · rw [if_pos hdj, if_pos hd] at hj
      injection hj with hj; subst hj
      simpa using hn
    · rw [if_neg hdj] at hj
      exact (h.giv.inner s (List.mem_of_getElem? hj)).kept k1 (fun y hy e => by
        injection hy with hy; subst hy
        exact h.giv.apart d j r s hdj hr hj _ hx e)
  · intro a b ra rb hab ha hb y hy
    have look : ∀ {a ra}, (rows.set d ⟨r.A, r.c, r.xs.set i g⟩)[a]? = some ra → ∃ rb, rows[a]? = some rb ∧ rwv ra = rwv rb := fun {a ra} h2 => by
      rw [List.getElem?_set] at h2
      split at h2
      · next hj =>
        subst hj
        try rw [if_pos hd] at h2
        injection h2 with h2; subst h2; exact ⟨r, hr, erw⟩
      · exact ⟨ra, h2, rfl⟩
    obtain ⟨ra', h1, e1⟩ := look ha
    obtain ⟨rb', h2, e2⟩ := look hb
    rw [e1] at hy; rw [e2]
    exact h.giv.apart a b ra' rb' hab h1 h2 y hy
end
end Go.Proofs.Ytobifmndpkjlmaa


/- matched's closure give: a group is given a disk, or all disks that it may get are tried. -/
namespace Go.Proofs.Ytobifmndpkjlmaa
open Go.RowKit Go.BW

def lks (gs : List Gp) : List (List Int) := gs.map dks
def Lf (gs : List Gp) : Nat → List Int := fun x => (lks gs).getD x []
theorem Lf_at {gs : List Gp} {k : Nat} {x : Gp} (h : gs[k]? = some x) : Lf gs k = dks x := by
  unfold Lf lks; simp [List.getD_eq_getElem?_getD, h]
def GivePost (base : Nat) (p : Pm) (rs : List Int) (gs : List Gp) (rows : List Rw) (T : Nat → Bool) (g : Nat) (w : World) (e : Ending) (w' : World) : Prop :=
  ∃ (b : Bool) (rows' : List Rw) (T' : Nat → Bool), e = .returned (.bool b) ∧ GiM w' base p rs gs rows' T' ∧ Below base w w' ∧ Gd rs (Lf gs) gs.length (GG rows') ∧
    (b = true → GTrue (GG rows) T g (GG rows')) ∧ (b = false → rows' = rows ∧ GFalse rs (Lf gs) (GG rows) T g T')
theorem MT63 : MapT Try.prog 63 3 4 (.bool false) := ⟨Try.underlying63, Try.underlying3, fun w => by
  have h : (Try.prog.info? 4).map (·.zero) = some (some (.bool false)) := by kernel_rfl
  obtain ⟨i, hi, hz⟩ := Option.map_eq_some_iff.1 h
  simp [zeroValue, typeInfo, hi, hz]⟩
theorem below_nw {base : Nat} {w w' : World} (h : Nw w w') (hB : base ≤ w.heap.size) : Below base w w' :=
  ⟨h.os, h.tape, h.output, h.size, fun i hi => h.block i (Nat.lt_of_lt_of_le hi hB) (by simp)⟩
theorem below_gb {base x : Nat} {w w' : World} (h : w.grownBy w' (some x)) (hB : base ≤ w.heap.size) (hx : base ≤ x) : Below base w w' :=
  ⟨h.os, h.tape, h.output, h.size, fun i hi => h.block i (Nat.lt_of_lt_of_le hi hB) (by intro e; injection e with e; omega)⟩
theorem below_tr {base : Nat} {w w1 w2 : World} (h : Below base w w1) (k : Below base w1 w2) : Below base w w2 :=
  ⟨k.os.trans h.os, k.tape.trans h.tape, k.output.trans h.output, Nat.le_trans h.size k.size, fun i hi => (k.block i hi).trans (h.block i hi)⟩
set_option maxHeartbeats 8000000 in
theorem give_any (base : Nat) (p : Pm) (rs : List Int) (gs : List Gp) (hl : rs.length = p.n) (hgl : gs.length = p.nl) (hn : p.n ≤ 1000000) (hm : p.nl ≤ 1000000) (hM : ∀ r ∈ rs, r ≤ 1000000) :
    ∀ (k : Nat) (rows : List Rw) (T : Nat → Bool) (g : Nat) (w : World), un rs.length T < k → g < gs.length → Gd rs (Lf gs) gs.length (GG rows) → GiM w base p rs gs rows T →
    Calls Try.prog 46 #[.int .i64 g, ptr p.bR, ptr p.bT, ptr p.bL, ptr p.bG, ptr p.bF] w (GivePost base p rs gs rows T g w) := by
  obtain ⟨bR, bT, bL, bG, bF, mp, gO, AR, n, cR, AL, nl, cL⟩ := p
  obtain ⟨p, hp⟩ : ∃ p : Pm, p = ⟨bR, bT, bL, bG, bF, mp, gO, AR, n, cR, AL, nl, cL⟩ := ⟨_, rfl⟩
  simp only at hl hgl hn hm ⊢
  intro k
  induction k with
  | zero => intro rows T g w h; omega
  | succ k ih =>
    intro rows T g w hun hg hgd hgi
    rw [← hp] at hgi ih ⊢
    have IH := Lib.hid ih
    have GD := Lib.hid hgd
    have HL := Lib.hid hl; have HGL := Lib.hid hgl; have HM := Lib.hid hM
    have CS := Lib.hid (show ∀ w rows T, GiM w base p rs gs rows T → w.cell? ⟨bR, 0, none⟩ = some (.slice AR n cR) ∧ w.cell? ⟨bT, 0, none⟩ = some (.map (some mp)) ∧ w.cell? ⟨bL, 0, none⟩ = some (.slice AL nl cL) ∧
        w.cell? ⟨bG, 0, none⟩ = some (.slice (some ⟨gO, 0, none⟩) n n) ∧ w.cell? ⟨bF, 0, none⟩ = some (.func (.func 46) #[] #[.pointer (some ⟨bR, 0, none⟩), .pointer (some ⟨bT, 0, none⟩), .pointer (some ⟨bL, 0, none⟩), .pointer (some ⟨bG, 0, none⟩), .pointer (some ⟨bF, 0, none⟩)]) from
      fun _ _ _ h => by have := h.bx.cells; rw [hp] at this; exact this)
    have RM := Lib.hid (show ∀ w rows T, GiM w base p rs gs rows T → Rd w base 1 AR n (rs.map iv) from fun _ _ _ h => by have := h.bx.rooms; rw [hp] at this; exact this)
    have GR := Lib.hid (show ∀ w rows T, GiM w base p rs gs rows T → GsR w base AL nl gs from fun _ _ _ h => by have := h.bx.groups; rw [hp] at this; exact this)
    have GO := Lib.hid (show p.gO = gO by rw [hp])
    have PG := Lib.hid (show p.bG = bG by rw [hp])
    have MP := Lib.hid (show p.mp = mp by rw [hp])
    have LN := Lib.hid (show p.n = n by rw [hp])
    have hgn : g < nl := by omega
    have hgz : (g : Int) < (nl : Int) := by omega
    have GI := Lib.hid hgi
    unfold ptr at IH ⊢
    clear ih hgd hgi hM hp
    obtain ⟨k1, k2, k3, k4, k5⟩ := CS.out _ _ _ GI.out
    go_enter Try.func46, Try.ntmps46
    go_wp2_with fail
    clear k1 k2 k3 k4 k5
    go_loopw [14] (fun v wr => ∃ (d : Nat) (T1 : Nat → Bool), v = .int .i64 d ∧ d ≤ n ∧ GiM wr base p rs gs rows T1 ∧ Below base w wr ∧ Hid (GLoop rs (Lf gs) (GG rows) T g d T1)) (fun v _ => n - (intOf v).toNat)
    case atStart => exact ⟨0, T, rfl, Nat.zero_le _, GI.out, Below.refl _ _, Lib.hid GLoop.start⟩
    case round =>
      obtain ⟨d, T1, rfl, hd, hgi, hbw, hlo⟩ := hrel
      obtain ⟨wa, rfl⟩ : ∃ q, q = wr := ⟨_, rfl⟩
      obtain ⟨k1, k2, k3, k4, k5⟩ := CS.out _ _ _ hgi
      have G1 := Lib.hid hgi
      have BW := Lib.hid hbw
      clear hgi hbw
      by_cases hlt : d < n
      · have hltz : (d : Int) < (n : Int) := by omega
        obtain ⟨b, off, hA, hc⟩ := atD (RM.out _ _ _ G1.out) hlt
        subst hA
        obtain ⟨x, hx⟩ : ∃ x, rs.getD d 0 = x := ⟨_, rfl⟩
        rw [hx] at hc
        have HX := Lib.hid hx
        clear hx
        rcases (show x < 1 ∨ 1 ≤ x by omega) with h0 | h0
        · have HN := Lib.hid (hlo.out.skip (.inl (by rw [HX.out]; omega)))
          clear hlo
          go_wp2_with fail
          go_roundw
          case rel => exact ⟨d + 1, T1, by go_num, by omega, G1.out, BW.out, HN⟩
          case measure => simp only [intOf]; omega
        · have d0 : decide (x < 1) = false := decide_eq_false (by omega)
          obtain ⟨t, ht⟩ : ∃ t, T1 d = t := ⟨_, rfl⟩
          have HT := Lib.hid ht
          have hmt := mapT_at T1 d
          rw [ht] at hmt
          have MT := Lib.hid hmt
          have MM := Lib.hid (show MapI wa mp (mapT T1) from by have := G1.out.map; rw [MP.out] at this; exact this)
          clear ht hmt
          rcases t with _ | _
          · -- not tried
            obtain ⟨_, b3, off3, y, hA3, _, hy, hcy⟩ := (GR.out _ _ _ G1.out).rd.atL gc_len (by decide) hgn
            have HA3 := Lib.hid hA3
            have HCY := Lib.hid hcy
            have HY := Lib.hid hy
            have HH := Lib.hid (show Calls Try.prog 32 #[.agg (gc y).toArray, .int .i64 d] wa (Ret (.bool (hasD y d)) wa) from has_any ((GR.out _ _ _ G1.out).all y (List.mem_of_getElem? hy)) G1.out.bx.hB d)
            have HD := Lib.hid (show Lf gs g = dks y from Lf_at hy)
            obtain ⟨q, hq⟩ : ∃ q, hasD y d = q := ⟨_, rfl⟩
            rw [hq] at HH
            have HQ := Lib.hid hq
            unfold Ret at HH
            clear hy hcy hq
            subst hA3
            rcases q with _ | _
            · have hno : (d : Int) ∉ Lf gs g := by rw [HD.out]; exact (hasD_not y d).1 HQ.out
              have HNO := Lib.hid hno
              have hdr : d < rows.length := by rw [G1.out.len, LN.out]; exact hlt
              obtain ⟨⟨rA, rc, rxs⟩, hr⟩ : ∃ r, rows[d]? = some r := ⟨_, List.getElem?_eq_getElem hdr⟩
              have HR := Lib.hid hr
              have HGr := Lib.hid (GG_at hr)
              have HG3 := Lib.hid (show ∀ w2 w3, Nw wa w2 → MapI w3 mp (fun z => if z = (d : Int) then some (.bool true) else mapT T1 z) → w2.grownBy w3 (some mp) → GiM w3 base p rs gs rows (more T1 d) ∧ Below base wa w3 from fun w2 w3 n2 m3 g3 =>
                ⟨(G1.out.nw n2).mapped (by rw [MP.out]; exact g3) (by rw [MP.out, ← mapT_more]; exact m3), below_tr (below_nw n2 G1.out.bx.hB) (below_gb g3 (Nat.le_trans G1.out.bx.hB n2.size) (by rw [← MP.out]; exact G1.out.mb))⟩)
              have HCD := Lib.hid (show ∀ w' T', GiM w' base p rs gs rows T' → w'.cell? ⟨gO, d, none⟩ = some (.slice rA rxs.length rc) from fun w' T' h => by
                obtain ⟨u, h1, h2, _⟩ := h.giv.own.cellAt hdr
                rw [List.getElem?_map, HR.out] at h1
                injection h1 with h1
                subst h1
                rw [← GO.out]
                exact h2)
              have HF := Lib.hid (GD.out.fit d (by rw [HL.out]; exact hlt)).1
              clear hr hno hdr
              obtain ⟨lx, hlx⟩ : ∃ lx, rxs.length = lx := ⟨_, rfl⟩
              rw [hlx] at HCD
              have HLX := Lib.hid hlx
              clear hlx
              rcases (show (lx : Int) < x ∨ x ≤ (lx : Int) by omega) with h5 | h5
              · have hpos : 0 < x := by omega
                have hlx : lx ≤ 1000000 := by
                  have h1 := HM.out x
                  have h2 : x ∈ rs := by
                    rw [← HX.out, ← getD_at (by rw [HL.out]; exact hlt)]
                    exact List.getElem_mem _
                  have := h1 h2
                  omega
                have HP := Lib.hid (show GTrue (GG rows) T g (GG (rows.set d ⟨none, 0, rxs ++ [g]⟩)) ∧ Gd rs (Lf gs) gs.length (GG (rows.set d ⟨none, 0, rxs ++ [g]⟩)) from by
                  rw [GG_set]
                  have e : (⟨none, 0, rxs ++ [g]⟩ : Rw).xs = (GG rows).getD d [] ++ [g] := by rw [HGr.out]
                  rw [e]
                  refine ⟨hlo.out.push HT.out (by rw [GG_len, G1.out.len, LN.out]; exact hlt), GD.out.push (by rw [HL.out]; exact hlt) hg HNO.out ?_⟩
                  rw [HGr.out, HLX.out, HX.out]; exact h5)
                clear hlo
                go_upto_region 7 with (first | ((with_reducible refine wpList_updI MT63 _ _ _ (by with_unfolding_all exact rfl) (by with_unfolding_all exact rfl) (by with_unfolding_all exact rfl) d (by with_unfolding_all exact rfl) (.bool true) (by with_unfolding_all exact rfl) (MM.out.nw n2) ?_); intro w3 m3 g3; have G3 := Lib.hid (HG3.out w2 w3 n2 m3 g3); clear m3 g3; obtain ⟨k6, k7, k8, k9, k10⟩ := CS.out _ _ _ G3.out.1; have k11 := HCD.out _ _ G3.out.1) | ((with_reducible refine HH.out.mono ?_); rintro e w2 ⟨rfl, n2⟩; have k6 := cell_nw k2 n2) | ((with_reducible refine wpList_load_agg 37 _ (by with_unfolding_all exact rfl) (by with_unfolding_all exact rfl) (by with_unfolding_all exact rfl) (gc y) HCY.out _ Try.underlying37 (by with_unfolding_all exact rfl) (by rw [gc_len]; kernel_rfl) ?_)) | ((with_reducible refine wpList_lookI MT63 _ _ (by with_unfolding_all exact rfl) (by with_unfolding_all exact rfl) (by with_unfolding_all exact rfl) d (by with_unfolding_all exact rfl) MM.out MT.out ?_)))
                have S3 := Lib.hid (And.intro k9 k11)
                have HI := Lib.hid (show Own w3 base 3 1 rA lx rc (rxs.map nv) from by rw [← HLX.out]; exact G3.out.1.giv.inner _ (List.mem_of_getElem? HR.out))
                have HO := Lib.hid (show Own w3 base 22 1 (some ⟨gO, 0, none⟩) n n (rows.map rwv) from by
                  have h := G3.out.1.giv.own
                  rw [GO.out, G3.out.1.len, LN.out] at h; exact h)
                have hb3 : base ≤ w3.heap.size := G3.out.1.bx.hB
                have BG := Lib.hid (show Obj1 w3 bG 62 #[.slice (some ⟨gO, 0, none⟩) n n] from by have := G3.out.1.bx.hG; rw [PG.out, GO.out, LN.out] at this; exact this)
                have RB := Lib.hid (show ∀ x, (Value.slice rA lx rc).ownBlock = some x → ∃ cur, Obj1 w3 x 3 cur from fun x hx => HI.out.rowObj x hx)
                clear k2 k4 k5 k6 k7 k8 k9 k10 k11 hc
                refine wp_region_U [10] (fun w' => w'.cell? ⟨bG, 0, none⟩ = some (.slice (some ⟨gO, 0, none⟩) n n) ∧ w'.cell? ⟨gO, d, none⟩ = some (.slice rA lx rc)) (by kernel_rfl) ?_
                change wpU _ _ _ _ _ _ _ _ _ (World.drew w3)
                refine U_segL (r := [0, 1, 2, 3, 4, 5, 6]) (fuel := 4) rfl (by kernel_rfl) (by kernel_rfl) (by simp only [List.filterMap_cons, List.filterMap_nil, List.getElem?_toArray, List.getElem?_cons_succ, List.getElem?_cons_zero]; rfl) (fun _ _ d _ _ h => by cases d <;> exact h) S3.out ?_
                iterate 7 (refine wpYield_step rfl (fun K hK => ?_)
                           apply Exists.intro
                           refine ⟨fun w' hw' => ?_, ?_⟩
                           · (go_simp; try with_reducible rfl)
                           go_simp
                           refine hK _ ?_
                           clear hK K)
                refine wpYield_nil ?_
                refine U_eff 7 rfl (by kernel_rfl) rfl (fun K hK => ?_)
                go_simp
                refine hK _ _ ⟨until_of ⟨cell_alloc S3.out.1, cell_alloc S3.out.2⟩, ?_⟩
                clear hK K
                refine U_eff 8 rfl (by kernel_rfl) rfl (fun K hK => ?_)
                refine wp_app_own T22 _ _ rfl rfl rfl (World.ownsRow.alloc (HI.out.drew) _) rd_one (by intro u hu; rw [List.mem_singleton] at hu; subst hu; rfl) (by unfold maxLen; omega) (by simp; omega) ?_
                intro A' c' w5 h2 h3 h4
                have K1 := Lib.hid (show w3.grownBy w5 (Value.slice rA lx rc).ownBlock from gb_of_drew (gb_trans (World.grownBy_alloc _ _ _) h3))
                have BG5 := Lib.hid (show Obj1 w5 bG 62 #[.slice (some ⟨gO, 0, none⟩) n n] from BG.out.eq (K1.out.block _ BG.out.lt fun e => by
                  obtain ⟨cur, hc⟩ := RB.out _ e.symm
                  exact hc.ne BG.out (by decide) rfl))
                have O5 := Lib.hid (HO.out.kept K1.out (fun x hx e => by
                  obtain ⟨cur, hc⟩ := RB.out _ hx
                  obtain ⟨cur2, hc2⟩ := HO.out.rowObj _ e
                  exact hc.ne hc2 (by decide) rfl))
                have C5 := Lib.hid (show w5.cell? ⟨gO, d, none⟩ = some (.slice rA lx rc) from by
                  obtain ⟨u, h1, h2, _⟩ := O5.out.cellAt (k := d) hlt
                  rw [List.getElem?_map, HR.out] at h1
                  injection h1 with h1
                  subst h1
                  rw [h2]; unfold rwv; rw [HLX.out])
                have H2 := Lib.hid h2
                have H4 := Lib.hid (show (Value.slice A' (lx + 1) c').ownBlock = (Value.slice rA lx rc).ownBlock ∨ ∃ g, w3.heap.size ≤ g ∧ (Value.slice A' (lx + 1) c').ownBlock = some g from h4.imp id fun h => ⟨_, by simp, h⟩)
                clear h2 h3 h4
                refine hK _ _ ⟨until_of ⟨BG5.out.cell 0, C5.out⟩, ?_⟩
                clear hK K
                refine U_segL (r := [9]) (fuel := 1) rfl (by kernel_rfl) (by kernel_rfl) (by simp only [List.filterMap_cons, List.filterMap_nil, List.getElem?_toArray, List.getElem?_cons_succ, List.getElem?_cons_zero]; rfl) (fun _ _ d _ _ h => by cases d <;> exact h) (And.intro (BG5.out.cell 0) C5.out) ?_
                (refine wpYield_step rfl (fun K hK => ?_)
                 apply Exists.intro
                 refine ⟨fun w' hw' => ?_, ?_⟩
                 · (go_simp; try with_reducible rfl)
                 go_simp
                 refine hK _ ?_
                 clear hK K)
                refine wpYield_nil ?_
                refine U_eff 10 rfl (by kernel_rfl) rfl (fun K hK => ?_)
                refine wp_store_own 22 _ _ rfl rfl rfl rfl (by kernel_rfl) (cs := [.slice A' (lx + 1) c']) (by intro u hu; rw [List.mem_singleton] at hu; subst hu; rfl) O5.out (by simp; omega) ?_
                intro w6 s1 s2
                have G6 := Lib.hid (show GiM w6 base p rs gs (rows.set d ⟨A', c', rxs ++ [g]⟩) (more T1 d) from
                  G3.out.1.rowed HR.out (w1 := w5) (by unfold rwv; rw [HLX.out]; exact K1.out) (by
                    have h := H2.out
                    simp only [List.length_append, List.length_singleton, List.map_append, List.map_cons, List.map_nil, HLX.out]
                    exact h) (by
                    have h := H4.out
                    unfold rwv
                    simp only [List.length_append, List.length_singleton, HLX.out]
                    exact h) (by rw [GO.out]; exact s2) (by
                    have h := s1
                    rw [GO.out, G3.out.1.len, LN.out]
                    unfold rwv at h ⊢
                    simp only [List.length_append, List.length_singleton, HLX.out]
                    exact h))
                have B6 := Lib.hid (show Below base w w6 from below_tr BW.out (below_tr G3.out.2 (below_tr (⟨K1.out.os, K1.out.tape, K1.out.output, K1.out.size, fun i hi => K1.out.block i (Nat.lt_of_lt_of_le hi hb3) (fun e => by
                    have := HI.out.blk i e.symm; omega)⟩) (below_gb s2 (Nat.le_trans hb3 K1.out.size) (by rw [← GO.out]; exact G3.out.1.gb)))))
                refine hK _ _ ⟨until_past (by kernel_rfl), ?_⟩
                clear hK K s1 s2
                refine U_done (by kernel_rfl) ?_ _
                go_wp2
                go_ret
                refine ⟨true, _, _, rfl, G6.out, B6.out, ?_, fun _ => ?_, fun h => by cases h⟩
                · have := HP.out.2; rw [GG_set] at this ⊢; exact this
                · have := HP.out.1; rw [GG_set] at this ⊢; exact this
              · have HE := Lib.hid (hlo.out.enter HT.out)
                have hlx : lx ≤ 1000000 := by
                  have h1 := HM.out x
                  have h2 : x ∈ rs := by
                    rw [← HX.out, ← getD_at (by rw [HL.out]; exact hlt)]
                    exact List.getElem_mem _
                  have h3 := h1 h2
                  have h4 := HF.out
                  rw [HGr.out, HX.out] at h4
                  have h6 : rxs.length = lx := HLX.out
                  simp only at h4
                  omega
                clear hlo
                go_wp2_with (first | ((with_reducible refine wpList_updI MT63 _ _ _ (by with_unfolding_all exact rfl) (by with_unfolding_all exact rfl) (by with_unfolding_all exact rfl) d (by with_unfolding_all exact rfl) (.bool true) (by with_unfolding_all exact rfl) (MM.out.nw n2) ?_); intro w3 m3 g3; have G3 := Lib.hid (HG3.out w2 w3 n2 m3 g3); clear m3 g3; obtain ⟨k6, k7, k8, k9, k10⟩ := CS.out _ _ _ G3.out.1; have k11 := HCD.out _ _ G3.out.1) | ((with_reducible refine HH.out.mono ?_); rintro e w2 ⟨rfl, n2⟩; have k6 := cell_nw k2 n2) | ((with_reducible refine wpList_load_agg 37 _ (by with_unfolding_all exact rfl) (by with_unfolding_all exact rfl) (by with_unfolding_all exact rfl) (gc y) HCY.out _ Try.underlying37 (by with_unfolding_all exact rfl) (by rw [gc_len]; kernel_rfl) ?_)) | ((with_reducible refine wpList_lookI MT63 _ _ (by with_unfolding_all exact rfl) (by with_unfolding_all exact rfl) (by with_unfolding_all exact rfl) d (by with_unfolding_all exact rfl) MM.out MT.out ?_)))
                clear k2 k4 k5 k6 k7 k8 k9 k10 k11 hc
                go_loopw [58] (fun v wr => ∃ (i : Nat) (T3 : Nat → Bool), v = .int .i64 i ∧ i ≤ lx ∧ GiM wr base p rs gs rows T3 ∧ Below base w wr ∧ Hid (GIn rs (Lf gs) (GG rows) T g d i T3)) (fun v _ => lx - (intOf v).toNat)
                case atStart => exact ⟨0, _, rfl, Nat.zero_le _, G3.out.1, below_tr BW.out G3.out.2, HE⟩
                case round =>
                  obtain ⟨i, T3, rfl, hi, hgi, hbw, hin⟩ := hrel
                  obtain ⟨wb, rfl⟩ : ∃ q, q = wr := ⟨_, rfl⟩
                  obtain ⟨k1, k2, k3, k4, k5⟩ := CS.out _ _ _ hgi
                  have Gi := Lib.hid hgi
                  have BI := Lib.hid hbw
                  clear hgi hbw
                  by_cases hli : i < lx
                  · have hliz : (i : Int) < (lx : Int) := by omega
                    have hix : i < rxs.length := by rw [HLX.out]; exact hli
                    have hin0 := Gi.out.giv.inner _ (List.mem_of_getElem? HR.out)
                    simp only at hin0
                    obtain ⟨xb, hxb, _⟩ := hin0.some_ (by omega)
                    subst hxb
                    obtain ⟨u, hu1, hu2, _⟩ := hin0.cellAt hix
                    obtain ⟨o, ho⟩ : ∃ o, rxs[i]? = some o := ⟨_, List.getElem?_eq_getElem hix⟩
                    rw [List.getElem?_map, ho] at hu1
                    injection hu1 with hu1
                    subst hu1
                    unfold nv at hu2
                    have HOo := Lib.hid (show (((GG rows).getD d []).getD i 0) = o by rw [HGr.out, List.getD_eq_getElem?_getD, ho]; rfl)
                    have hog : o < gs.length := ((GD.out.fit d (by rw [HL.out]; exact hlt)).2 o (by rw [HGr.out]; exact List.mem_of_getElem? ho)).1
                    have HC := Lib.hid (IH.out rows T3 o wb (by
                      have := un_lt (n := rs.length) hin.out.sub (by rw [HL.out]; exact hlt) hin.out.free hin.out.this
                      omega) hog GD.out Gi.out)
                    unfold GivePost at HC
                    clear ho hin0
                    have HTB := Lib.hid (show ∀ w2 rows' T', GiM w2 base p rs gs rows' T' → GTrue (GG rows) T3 o (GG rows') → ∃ xb' rc', rows'[d]? = some ⟨some ⟨xb', 0, none⟩, rc', rxs⟩ ∧ w2.cell? ⟨gO, d, none⟩ = some (.slice (some ⟨xb', 0, none⟩) lx rc') ∧
                        Own w2 base 3 1 (some ⟨xb', 0, none⟩) lx rc' (rxs.map nv) from fun w2 rows' T' h ht => by
                      have hdr : d < rows'.length := by rw [h.len, LN.out]; exact hlt
                      obtain ⟨⟨rA', rc', rxs'⟩, hr'⟩ : ∃ r, rows'[d]? = some r := ⟨_, List.getElem?_eq_getElem hdr⟩
                      have e := ht.kept d hin.out.this
                      rw [GG_at hr', HGr.out] at e
                      simp only at e
                      subst e
                      have hin2 := h.giv.inner _ (List.mem_of_getElem? hr')
                      simp only at hin2
                      obtain ⟨xb', hxb', _⟩ := hin2.some_ (by omega)
                      subst hxb'
                      obtain ⟨u, h1, h2, _⟩ := h.giv.own.cellAt hdr
                      rw [List.getElem?_map, hr'] at h1
                      injection h1 with h1
                      subst h1
                      rw [GO.out] at h2
                      unfold rwv at h2
                      rw [HLX.out] at h2 hin2
                      exact ⟨xb', rc', hr', h2, hin2⟩)
                    go_wp2_with (first
                      | ((with_reducible refine HC.out.mono ?_); rintro e w2 ⟨_ | _, rows', T', rfl, hgi', hbw', hgd', ht', hf'⟩; (have Gb := Lib.hid hgi'; have Bb := Lib.hid hbw'; have Fb := Lib.hid (hf' rfl); clear hgi' hbw' hgd' ht' hf'); rotate_left;
                          (have Gb := Lib.hid hgi'; have Bb := Lib.hid hbw'; have Db := Lib.hid hgd'; have Tb := Lib.hid (ht' rfl); obtain ⟨k6, k7, k8, k9, k10⟩ := CS.out _ _ _ hgi'; obtain ⟨xb', rc', hr', hc', ho'⟩ := HTB.out _ _ _ hgi' Tb.out; have RB := Lib.hid hr'; have OW := Lib.hid ho'; obtain ⟨u', _, kc', kf'⟩ := ho'.cellAt (k := i) hli; clear hgi' hbw' hgd' ht' hf' hr' ho'); rotate_left))
                    · go_roundw
                      case rel => exact ⟨i + 1, T', by go_num, by omega, by have h := Gb.out; rw [Fb.out.1] at h; exact h, below_tr BI.out Bb.out, Lib.hid (hin.out.next (by rw [HOo.out]; exact Fb.out.2))⟩
                      case measure => simp only [intOf]; omega
                    · obtain ⟨o1, o2⟩ := OW.out.set i (.int .i64 g)
                      have hl' : d < (GG rows').length := by rw [GG_len, Gb.out.len, LN.out]; exact hlt
                      have ex := GG_at RB.out
                      simp only at ex
                      have Gz := Gb.out.placed (g := g) RB.out rfl hix o2 (by rw [splice_one _ _ _ (by simpa using hix), HLX.out]; exact o1)
                      have HT2 := hin.out.put (by rw [HOo.out]; exact Tb.out) hl' (by rw [HGr.out]; exact hix)
                      go_ret
                      refine ⟨true, _, _, rfl, Gz, below_tr BI.out (below_tr Bb.out (below_gb o2 Gb.out.bx.hB ?_)), ?_, fun _ => ?_, fun h => by cases h⟩
                      · obtain ⟨gx, e, h⟩ := OW.out.some_ (by omega)
                        injection e with e; injection e with e; rw [e]; exact h
                      · rw [GG_set]
                        have := Db.out.put (i := i) (g := g) (d := d) (by rw [HL.out]; exact hlt) hg HNO.out
                        rw [ex] at this; exact this
                      · rw [GG_set]
                        rw [ex] at HT2; exact HT2
                  · have hil : i = lx := by omega
                    have HN := Lib.hid (show GLoop rs (Lf gs) (GG rows) T g (d + 1) T3 from GIn.leave (by rw [HGr.out, HLX.out, ← hil]; exact hin.out) (by rw [HGr.out, HLX.out, HX.out]; omega))
                    clear hin hil
                    go_wp2_with fail
                    go_roundw
                    case rel => exact ⟨d + 1, T3, by go_num, by omega, Gi.out, BI.out, HN⟩
                    case measure => simp only [intOf]; omega
            · have HN := Lib.hid (hlo.out.skip (.inr (.inr (by rw [HD.out]; exact (hasD_iff y d).1 HQ.out))))
              clear hlo
              go_wp2_with (first
                | ((with_reducible refine HH.out.mono ?_); rintro e w2 ⟨rfl, n2⟩)
                | ((with_reducible refine wpList_load_agg 37 _ (by with_unfolding_all exact rfl) (by with_unfolding_all exact rfl) (by with_unfolding_all exact rfl) (gc y) HCY.out _ Try.underlying37 (by with_unfolding_all exact rfl) (by rw [gc_len]; kernel_rfl) ?_))
                | ((with_reducible refine wpList_lookI MT63 _ _ (by with_unfolding_all exact rfl) (by with_unfolding_all exact rfl) (by with_unfolding_all exact rfl) d (by with_unfolding_all exact rfl) MM.out MT.out ?_)))
              go_roundw
              case rel => exact ⟨d + 1, T1, by go_num, by omega, G1.out.nw n2, below_tr BW.out (below_nw n2 G1.out.bx.hB), HN⟩
              case measure => simp only [intOf]; omega
          · have HN := Lib.hid (hlo.out.skip (.inr (.inl HT.out)))
            clear hlo
            go_wp2_with (first
              | ((with_reducible refine wpList_lookI MT63 _ _ (by with_unfolding_all exact rfl) (by with_unfolding_all exact rfl) (by with_unfolding_all exact rfl) d (by with_unfolding_all exact rfl) MM.out MT.out ?_)))
            go_roundw
            case rel => exact ⟨d + 1, T1, by go_num, by omega, G1.out, BW.out, HN⟩
            case measure => simp only [intOf]; omega
      · have hdn : d = n := by omega
        have HF := Lib.hid (show GFalse rs (Lf gs) (GG rows) T g T1 from GLoop.fin (by rw [HL.out, ← hdn]; exact hlo.out))
        clear hlo hdn
        go_wp2_with fail
        go_ret
        exact ⟨false, rows, T1, rfl, G1.out, BW.out, GD.out, fun h => (by cases h), fun _ => ⟨rfl, HF.out⟩⟩
end Go.Proofs.Ytobifmndpkjlmaa


/- group.matched: each of the groups is given a disk, or some set of disks is short. -/
namespace Go.Proofs.Ytobifmndpkjlmaa
open Go.RowKit Go.BW

section
variable {P : Program} {ops : Array Oper} {rest : List Oper} {o : Oper} {a : Act} {Q : Exit → Act → World → Prop} {w : World}
theorem wpList_mk (t : TypeId) (hop : o.op = .makeMap t none) (hw : Region.wanted o (yielded ops a.tmps) = true) (hK : wpList P ops Q rest (a.put o.dst (.map (some w.heap.size))) (w.alloc (.map #[] 0))) : wpList P ops Q (o :: rest) a w := by
  refine wpList_ran hw (v := .map (some w.heap.size)) (w' := w.alloc (.map #[] 0)) ?_ hK
  unfold execOp
  simp [hop, run_makeMap]
end
theorem fn_one (k : Nat) (cs bs : Array Value) : ∀ u ∈ [Value.func (.func k) cs bs], u.oneCell' = true := by
  intro u hu; rw [List.mem_singleton] at hu; subst hu; rfl
theorem nw_bl {w w1 w2 : World} {x : Nat} (h : Nw w w1) (k : Below x w1 w2) (hx : w.heap.size = x) : Nw w w2 :=
  ⟨k.os.trans h.os, k.tape.trans h.tape, k.output.trans h.output, Nat.le_trans h.size k.size, fun i hi _ => (k.block i (by omega)).trans (h.block i hi (by simp))⟩
theorem lks_len (gs : List Gp) : (lks gs).length = gs.length := by simp [lks]
theorem GG_new (n j : Nat) : (GG (List.replicate n ⟨none, 0, []⟩)).getD j [] = [] := by
  unfold GG
  rw [List.map_replicate, List.getD_eq_getElem?_getD, List.getElem?_replicate]
  split <;> rfl
theorem giv_new {w1 w5 : World} {base g n bF : Nat} (h : Own w1 base 22 1 (some ⟨g, 0, none⟩) n n (Go.madeCells (Value.slice none 0 0).cells (n * 1)).toList) (hk : w5.heap[g]? = w1.heap[g]?) : GivM w5 base g (List.replicate n ⟨none, 0, []⟩) := by
  refine ⟨?_, ?_, ?_⟩
  · have e : (Go.madeCells (Value.slice none 0 0).cells (n * 1)).toList = (List.replicate n (⟨none, 0, []⟩ : Rw)).map rwv := by
      rw [Nat.mul_one, List.map_replicate]
      apply List.ext_getElem?
      intro j
      rw [List.getElem?_replicate]
      simp only [Array.getElem?_toList]
      by_cases hj : j < n
      · simp [Go.madeCells, Value.cells, hj, rwv, Nat.mod_one]
      · simp [Go.madeCells, hj]
    rw [e] at h
    rw [List.length_replicate]
    exact h.eqb hk
  · intro r hr
    rw [List.mem_replicate] at hr
    obtain ⟨_, rfl⟩ := hr
    exact Own.nil
  · intro i j r s _ hr _ x hx
    have := List.mem_of_getElem? hr
    rw [List.mem_replicate] at this
    obtain ⟨_, rfl⟩ := this
    simp [rwv, Value.ownBlock] at hx
def MatchPost (gs : List Gp) (rs : List Int) (w : World) (e : Ending) (w' : World) : Prop :=
  ∃ b : Bool, e = .returned (.bool b) ∧ (b = true → Mt (lks gs) rs) ∧ (b = false → Short (lks gs) rs) ∧ Nw w w'
set_option maxHeartbeats 8000000 in
theorem matched_any {w : World} {B n c m c2 : Nat} {A A2 : Option Addr} {rs : List Int} {gs : List Gp} (hg : GsR w B A2 m gs) (hr : Rd w B 1 A n (rs.map iv)) (hB : B ≤ w.heap.size) (hn : n ≤ 1000000) (hm : m ≤ 1000000)
    (hM : ∀ r ∈ rs, r ≤ 1000000) : Calls Try.prog 36 #[.slice A2 m c2, .slice A n c] w (MatchPost gs rs w) := by
  have hlen : rs.length = n := by have := hr.1; simpa using this
  have hglen := hg.len
  have HG := Lib.hid (hg.more hB); have HR := Lib.hid (hr.more hB); have HL := Lib.hid hlen; have HGL := Lib.hid hglen; have HM := Lib.hid hM
  have HSM := Lib.hid (show 24 * n ≤ 281474976710656 ∧ n ≤ maxLen from by unfold maxLen; omega)
  clear hg hr hB hlen hglen hM
  have HSW := Lib.hid (show w.heap.size ≤ ((w.alloc (.cells #[.slice A2 m c2] 28)).alloc (.cells #[.slice A n c] 22)).heap.size from by simp; omega)
  go_enter Try.func36, Try.ntmps36
  go_upto_region 4 with (first
    | ((with_reducible refine wpList_mk 63 (by with_unfolding_all exact rfl) (by with_unfolding_all exact rfl) ?_))
    | ((with_reducible refine wpList_make T62 _ _ (by with_unfolding_all exact rfl) (by with_unfolding_all exact rfl) w.heap.size _ _ _ _ n (by with_unfolding_all exact rfl) (by with_unfolding_all exact rfl) (by with_unfolding_all exact rfl) (by with_unfolding_all exact rfl) HSM.out HSW.out ?_); intro g w1 m1 m2 m3))
  obtain ⟨p, hp⟩ : ∃ p : Pm, p = ⟨w.heap.size + 1, w1.heap.size + 1 + 1, w.heap.size, w1.heap.size, w1.heap.size + 1 + 1 + 1, w1.heap.size + 1, g, A, n, c, A2, m, c2⟩ := ⟨_, rfl⟩
  have HINV : ∀ w5, ((((w1.alloc (.cells #[.slice (some ⟨g, 0, none⟩) n n] 62)).alloc (.map #[] 0)).alloc (.cells #[.map (some (w1.heap.size + 1))] 63)).alloc (.cells #[.nilFunc] 50)).grownBy w5 (some (w1.heap.size + 1 + 1 + 1)) →
      Obj1 w5 (w1.heap.size + 1 + 1 + 1) 50 #[.func (.func 46) #[] #[.pointer (some ⟨w.heap.size + 1, 0, none⟩), .pointer (some ⟨w1.heap.size + 1 + 1, 0, none⟩), .pointer (some ⟨w.heap.size, 0, none⟩), .pointer (some ⟨w1.heap.size, 0, none⟩), .pointer (some ⟨w1.heap.size + 1 + 1 + 1, 0, none⟩)]] →
      GiM w5 w.heap.size p rs gs (List.replicate n ⟨none, 0, []⟩) (fun _ => false) ∧ Nw w w5 := by
    intro w5 k5 o5
    have n0 : Nw w w1 := gb_trans (gb_trans (World.grownBy_alloc w _ none) (World.grownBy_alloc _ _ none)) m2
    have oL : Obj1 w1 w.heap.size 28 #[.slice A2 m c2] := (obj_fst w 28 #[.slice A2 m c2] (.cells #[.slice A n c] 22)).nw m2
    have oR : Obj1 w1 (w.heap.size + 1) 22 #[.slice A n c] := (obj_snd w (.cells #[.slice A2 m c2] 28) 22 #[.slice A n c]).nw m2
    have hlt := oR.lt
    have hgs : w.heap.size + 2 ≤ g := by
      have : ((w.alloc (.cells #[.slice A2 m c2] 28)).alloc (.cells #[.slice A n c] 22)).heap.size = w.heap.size + 2 := by simp
      omega
    obtain ⟨curg, og⟩ := m1.obj
    have hglt := og.lt
    have a1 := Obj1.new w1 62 #[.slice (some ⟨g, 0, none⟩) n n]
    have k1 := World.grownBy_alloc w1 (.cells #[.slice (some ⟨g, 0, none⟩) n n] 62) none
    have a2 := MapI.new (w1.alloc (.cells #[.slice (some ⟨g, 0, none⟩) n n] 62))
    have k2 := gb_trans k1 (World.grownBy_alloc _ (.map #[] 0) none)
    have a3 := Obj1.new ((w1.alloc (.cells #[.slice (some ⟨g, 0, none⟩) n n] 62)).alloc (.map #[] 0)) 63 #[.map (some (w1.heap.size + 1))]
    have k3 := gb_trans k2 (World.grownBy_alloc _ (.cells #[.map (some (w1.heap.size + 1))] 63) none)
    have k4 := gb_trans k3 (World.grownBy_alloc _ (.cells #[.nilFunc] 50) none)
    have b1 := ((a1.nw (World.grownBy_alloc _ (.map #[] 0) none)).nw (World.grownBy_alloc _ (.cells #[.map (some (w1.heap.size + 1))] 63) none)).nw (World.grownBy_alloc _ (.cells #[.nilFunc] 50) none)
    have b2 := (a2.nw (World.grownBy_alloc _ (.cells #[.map (some (w1.heap.size + 1))] 63) none)).nw (World.grownBy_alloc _ (.cells #[.nilFunc] 50) none)
    have b3 := a3.nw (World.grownBy_alloc _ (.cells #[.nilFunc] 50) none)
    have e1 : (w1.alloc (.cells #[.slice (some ⟨g, 0, none⟩) n n] 62)).heap.size = w1.heap.size + 1 := by simp
    have e2 : ((w1.alloc (.cells #[.slice (some ⟨g, 0, none⟩) n n] 62)).alloc (.map #[] 0)).heap.size = w1.heap.size + 1 + 1 := by simp
    rw [e1] at b2
    rw [e2] at b3
    have hne : ∀ {i : Nat}, i < w1.heap.size + 1 + 1 + 1 → some i ≠ some (w1.heap.size + 1 + 1 + 1) := fun h e => by injection e with e; omega
    have up : ∀ {i t cs}, Obj1 w1 i t cs → Obj1 w5 i t cs := fun ho => (ho.nw k4).eq (k5.block _ (ho.nw k4).lt (hne (by have := ho.lt; omega)))
    have hsz : w.heap.size ≤ w5.heap.size := Nat.le_trans n0.size (Nat.le_trans k4.size k5.size)
    have hbl : Below w.heap.size w w5 := (nw_of_gb (gb_trans n0 k4) k5 (fun z hz => by injection hz with hz; omega)).below
    subst hp
    refine ⟨⟨⟨up oR, b3.eq (k5.block _ b3.lt (hne (by omega))), up oL, b1.eq (k5.block _ b1.lt (hne (by omega))), o5, HR.out.below hbl, HG.out.below hbl, hsz⟩, ?_, ?_, ?_, by simp, ?_, ?_⟩, nw_below hbl⟩
    · rw [← mapT_none]; exact b2.eq (k5.block _ b2.lt (hne (by omega)))
    · exact giv_new (bF := 0) (m1.more (by omega)) (by rw [k5.block g (Nat.lt_of_lt_of_le hglt k4.size) (hne (by omega)), k4.block g hglt (by simp)])
    · simp only; omega
    · simp only; omega
    · simp only; omega
  have HI := Lib.hid HINV
  have HF := Lib.hid (show Obj1 ((((w1.alloc (.cells #[.slice (some ⟨g, 0, none⟩) n n] 62)).alloc (.map #[] 0)).alloc (.cells #[.map (some (w1.heap.size + 1))] 63)).alloc (.cells #[.nilFunc] 50)) (w1.heap.size + 1 + 1 + 1) 50 #[.nilFunc] from by
    have := Obj1.new (((w1.alloc (.cells #[.slice (some ⟨g, 0, none⟩) n n] 62)).alloc (.map #[] 0)).alloc (.cells #[.map (some (w1.heap.size + 1))] 63)) 50 #[.nilFunc]
    simpa using this)
  obtain ⟨W, hW⟩ : ∃ W, ((((w1.alloc (.cells #[.slice (some ⟨g, 0, none⟩) n n] 62)).alloc (.map #[] 0)).alloc (.cells #[.map (some (w1.heap.size + 1))] 63)).alloc (.cells #[.nilFunc] 50)) = W := ⟨_, rfl⟩
  rw [hW] at HI HF ⊢
  obtain ⟨y, hy⟩ : ∃ y, w1.heap.size = y := ⟨_, rfl⟩
  obtain ⟨x, hx⟩ : ∃ x, w.heap.size = x := ⟨_, rfl⟩
  rw [hy, hx] at HI hp
  rw [hy] at HF
  rw [hy, hx]
  have HX := Lib.hid hx
  subst hp
  clear hW hy hx HINV m1 m2 m3
  go_wp2_with (first
    | ((with_reducible refine wpList_store_obj 50 _ _ (by with_unfolding_all exact rfl) (by with_unfolding_all exact rfl) [.func (.func 46) #[] #[.pointer (some ⟨x + 1, 0, none⟩), .pointer (some ⟨y + 1 + 1, 0, none⟩), .pointer (some ⟨x, 0, none⟩), .pointer (some ⟨y, 0, none⟩), .pointer (some ⟨y + 1 + 1 + 1, 0, none⟩)]] (by with_unfolding_all exact rfl) (by with_unfolding_all exact rfl) (by with_unfolding_all exact rfl) (by kernel_rfl) (fn_one _ _ _) HF.out (by with_unfolding_all exact rfl) ?_); intro w5 s1 s2; have G5 := Lib.hid (HI.out w5 s2 s1); clear s1 s2; have k1 := G5.out.1.bx.hL.cell 0; simp only at k1))
  clear k1
  have CS := Lib.hid (show ∀ w' rows T, GiM w' x ⟨x + 1, y + 1 + 1, x, y, y + 1 + 1 + 1, y + 1, g, A, n, c, A2, m, c2⟩ rs gs rows T → w'.cell? ⟨y + 1 + 1, 0, none⟩ = some (.map (some (y + 1))) ∧ w'.cell? ⟨y + 1 + 1 + 1, 0, none⟩ = some (.func (.func 46) #[] #[.pointer (some ⟨x + 1, 0, none⟩), .pointer (some ⟨y + 1 + 1, 0, none⟩), .pointer (some ⟨x, 0, none⟩), .pointer (some ⟨y, 0, none⟩), .pointer (some ⟨y + 1 + 1 + 1, 0, none⟩)]) from
    fun w' rows T h => ⟨h.bx.cells.2.1, h.bx.cells.2.2.2.2⟩)
  have HC := Lib.hid (show ∀ (k : Nat) (rows : List Rw) (w' : World), k < m → Gd rs (Lf gs) gs.length (GG rows) → GiM w' x ⟨x + 1, y + 1 + 1, x, y, y + 1 + 1 + 1, y + 1, g, A, n, c, A2, m, c2⟩ rs gs rows (fun _ => false) →
      Calls Try.prog 46 #[.int .i64 k, .pointer (some ⟨x + 1, 0, none⟩), .pointer (some ⟨y + 1 + 1, 0, none⟩), .pointer (some ⟨x, 0, none⟩), .pointer (some ⟨y, 0, none⟩), .pointer (some ⟨y + 1 + 1 + 1, 0, none⟩)] w'
        (GivePost x ⟨x + 1, y + 1 + 1, x, y, y + 1 + 1 + 1, y + 1, g, A, n, c, A2, m, c2⟩ rs gs rows (fun _ => false) k w') from
    fun k rows w' hk hgd hgi => give_any x ⟨x + 1, y + 1 + 1, x, y, y + 1 + 1 + 1, y + 1, g, A, n, c, A2, m, c2⟩ rs gs HL.out HGL.out hn hm HM.out _ rows _ k w' (Nat.lt_succ_self _) (by rw [HGL.out]; exact hk) hgd hgi)
  unfold GivePost at HC
  obtain ⟨p, hp⟩ : ∃ p : Pm, p = ⟨x + 1, y + 1 + 1, x, y, y + 1 + 1 + 1, y + 1, g, A, n, c, A2, m, c2⟩ := ⟨_, rfl⟩
  rw [← hp] at CS HC G5
  have MP := Lib.hid (show p.mp = y + 1 by rw [hp])
  have HGD := Lib.hid (show Gd rs (Lf gs) gs.length (GG (List.replicate n ⟨none, 0, []⟩)) from ⟨by rw [GG_len, List.length_replicate, HL.out], fun j _ => by
    rw [GG_new]
    exact ⟨by simp; omega, by simp⟩⟩)
  clear HI hp
  go_loopw [16] (fun v wr => ∃ (k : Nat) (rows : List Rw) (T : Nat → Bool), v = .int .i64 k ∧ k ≤ m ∧ GiM wr x p rs gs rows T ∧ Nw w wr ∧ Hid (Gd rs (Lf gs) gs.length (GG rows)) ∧ Hid ((GG rows).flatten.Perm (List.range k))) (fun v _ => m - (intOf v).toNat)
  case atStart => exact ⟨0, _, _, rfl, Nat.zero_le _, G5.out.1, G5.out.2, HGD, Lib.hid (by
    have : (GG (List.replicate n ⟨none, 0, []⟩)).flatten = [] := by unfold GG; simp
    rw [this]; exact List.Perm.refl _)⟩
  case round =>
    obtain ⟨k, rows, T, rfl, hk, hgi, hnw, hgd, hpm⟩ := hrel
    obtain ⟨k1, k2⟩ := CS.out _ _ _ hgi
    by_cases hlt : k < m
    · have hltz : (k : Int) < (m : Int) := by omega
      have GI := Lib.hid hgi
      have MM := Lib.hid (show MapI wr (y + 1) (mapT T) from by have := hgi.map; rw [MP.out] at this; exact this)
      have HG6 := Lib.hid (show ∀ w6, MapI w6 (y + 1) (fun _ => none) → wr.grownBy w6 (some (y + 1)) → GiM w6 x p rs gs rows (fun _ => false) ∧ Nw w w6 from fun w6 m6 g6 =>
        ⟨GI.out.mapped (by rw [MP.out]; exact g6) (by rw [MP.out, ← mapT_none]; exact m6), nw_of_gb hnw g6 (fun z hz => by injection hz with hz; subst hz; rw [HX.out, ← MP.out]; exact GI.out.mb)⟩)
      clear hgi
      go_wp2_with (first
        | ((with_reducible refine (HC.out _ _ _ hlt hgd.out G6.out.1).mono ?_); rintro e w2 ⟨_ | _, rows', T', rfl, hgi', hbw', hgd', ht', hf'⟩; (have Gb := Lib.hid hgi'; have Bb := Lib.hid hbw'; have Fb := Lib.hid (hf' rfl); clear hgi' hbw' hgd' ht' hf'); rotate_left;
              (have Gb := Lib.hid hgi'; have Bb := Lib.hid hbw'; have Db := Lib.hid hgd'; have Tb := Lib.hid (ht' rfl); clear hgi' hbw' hgd' ht' hf'); rotate_left)
        | ((with_reducible refine wpList_clearI MT63 _ (by with_unfolding_all exact rfl) (by with_unfolding_all exact rfl) (by with_unfolding_all exact rfl) MM.out ?_); intro w6 m6 g6; have G6 := Lib.hid (HG6.out _ m6 g6); clear m6 g6; obtain ⟨k3, k4⟩ := CS.out _ _ _ G6.out.1))
      · go_ret
        exact ⟨false, rfl, fun h => (by cases h), fun _ => given_short (by have := hgd.out; unfold Lf at this; rwa [← lks_len] at this) hpm.out (by rw [lks_len, HGL.out]; exact hlt) Fb.out.2, nw_bl G6.out.2 Bb.out HX.out⟩
      · go_roundw
        case rel => exact ⟨k + 1, rows', T', by go_num, by omega, Gb.out, nw_bl G6.out.2 Bb.out HX.out, Lib.hid Db.out, Lib.hid (by
          have h1 := Tb.out.perm
          have h2 := hpm.out
          rw [List.range_succ]
          exact h1.trans ((h2.cons k).trans (List.perm_append_singleton k _).symm))⟩
        case measure => simp only [intOf]; omega
    · have hkm : k = m := by omega
      have HY := Lib.hid (show Mt (lks gs) rs from given_all (by have := hgd.out; unfold Lf at this; rwa [← lks_len] at this) (by rw [lks_len, HGL.out, ← hkm]; exact hpm.out))
      clear hkm
      go_wp2_with fail
      go_ret
      exact ⟨true, rfl, fun _ => HY.out, fun h => (by cases h), hnw⟩
end Go.Proofs.Ytobifmndpkjlmaa

