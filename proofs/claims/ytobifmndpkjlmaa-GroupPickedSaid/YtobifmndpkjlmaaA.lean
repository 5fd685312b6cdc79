/- Groups and extents: the data's words; the first that is so. -/
import Derived.Test.YtobifmndpkjlmaaProg
import Derived.Test.YtobifmndpkjlmaaFlat
import Derived.Test.YtobifmndpkjlmaaApp
import Derived.Test.YtobifmndpkjlmaaCut
import Derived.Test.YtobifmndpkjlmaaRes
import Derived.Test.YtobifmndpkjlmaaS1
import Derived.Test.YtobifmndpkjlmaaS2
namespace Go.Proofs.Ytobifmndpkjlmaa
open Go.RowKit Go.BW

/-- an extent -/
structure Et where
  dk : Int
  pl : Int
  deriving DecidableEq
def ec (m : Et) : List Value := [.int .i64 m.dk, .int .i64 m.pl]
def ev (m : Et) : Value := .agg #[.int .i64 m.dk, .int .i64 m.pl]
theorem ec_len (m : Et) : (ec m).length = 2 := rfl
theorem ec_one (ms : List Et) : ∀ u ∈ fl ec ms, u.oneCell' = true := by
  intro u hu
  unfold fl at hu
  rw [List.mem_flatten] at hu
  obtain ⟨l, hl, hu⟩ := hu
  obtain ⟨m, _, rfl⟩ := List.mem_map.1 hl
  simp [ec] at hu
  rcases hu with rfl | rfl <;> rfl
/-- a group: its numbers, where its extents lie, and what they are -/
structure Gp where
  id : Int
  kd : Int
  A : Option Addr
  n : Nat
  c : Nat
  es : List Et
def gc (x : Gp) : List Value := [.int .i64 x.id, .int .i64 x.kd, .slice x.A x.n x.c]
def gv (x : Gp) : Value := .agg #[.int .i64 x.id, .int .i64 x.kd, .slice x.A x.n x.c]
def g0 : Gp := ⟨0, 0, none, 0, 0, []⟩
theorem gc_len (x : Gp) : (gc x).length = 3 := rfl
theorem gc_one (xs : List Gp) : ∀ u ∈ fl gc xs, u.oneCell' = true := by
  intro u hu
  unfold fl at hu
  rw [List.mem_flatten] at hu
  obtain ⟨l, hl, hu⟩ := hu
  obtain ⟨m, _, rfl⟩ := List.mem_map.1 hl
  simp [gc] at hu
  rcases hu with rfl | rfl | rfl <;> rfl
theorem T35 : El Try.prog 35 39 (ev ⟨0, 0⟩) 2 16 := El.mk' Try.underlying35 (by kernel_rfl) rfl (by decide)
theorem T28 : El Try.prog 28 37 (gv g0) 3 40 := El.mk' Try.underlying28 (by kernel_rfl) rfl (by decide)
theorem T22 : El Try.prog 22 3 (.int .i64 0) 1 8 := El.mk' Try.underlying22 (by kernel_rfl) rfl (by decide)
theorem T62 : El Try.prog 62 22 (.slice none 0 0) 1 24 := El.mk' Try.underlying62 (by kernel_rfl) rfl (by decide)
/-- its extents lie below B -/
structure GOk (w : World) (B : Nat) (x : Gp) : Prop where
  rd : Rd w B 2 x.A x.n (fl ec x.es)
  nc : x.n ≤ x.c
  cm : x.c ≤ maxLen
  nm : x.n ≤ 1000000
section
variable {w w' : World} {B B' : Nat} {x : Gp}
theorem GOk.len (h : GOk w B x) : x.es.length = x.n := h.rd.lenL ec_len (by decide)
theorem GOk.nw (h : GOk w B x) (k : Nw w w') (hB : B ≤ w.heap.size) : GOk w' B x := ⟨h.rd.nw k hB, h.nc, h.cm, h.nm⟩
theorem GOk.more (h : GOk w B x) (hB : B ≤ B') : GOk w B' x := ⟨h.rd.more hB, h.nc, h.cm, h.nm⟩
theorem GOk.below (h : GOk w B x) (hb : Below B w w') : GOk w' B x := ⟨h.rd.below hb, h.nc, h.cm, h.nm⟩
end
/-- a row of groups that lies below B -/
structure GsR (w : World) (B : Nat) (A : Option Addr) (n : Nat) (gs : List Gp) : Prop where
  rd : Rd w B 3 A n (fl gc gs)
  all : ∀ g ∈ gs, GOk w B g
section
variable {w w' : World} {B B' n : Nat} {A : Option Addr} {gs : List Gp}
theorem GsR.len (h : GsR w B A n gs) : gs.length = n := h.rd.lenL gc_len (by decide)
theorem GsR.nw (h : GsR w B A n gs) (k : Nw w w') (hB : B ≤ w.heap.size) : GsR w' B A n gs := ⟨h.rd.nw k hB, fun g hg => (h.all g hg).nw k hB⟩
theorem GsR.more (h : GsR w B A n gs) (hB : B ≤ B') : GsR w B' A n gs := ⟨h.rd.more hB, fun g hg => (h.all g hg).more hB⟩
theorem GsR.below (h : GsR w B A n gs) (hb : Below B w w') : GsR w' B A n gs := ⟨h.rd.below hb, fun g hg => (h.all g hg).below hb⟩
end
/-- a group's disks -/
def dks (x : Gp) : List Int := x.es.map (·.dk)
def hasD (x : Gp) (d : Int) : Bool := x.es.any fun e => e.dk == d
theorem hasD_iff (x : Gp) (d : Int) : hasD x d = true ↔ d ∈ dks x := by
  unfold hasD dks
  simp [List.any_eq_true]
theorem hasD_not (x : Gp) (d : Int) : hasD x d = false ↔ d ∉ dks x := by
  rw [← hasD_iff]; simp
theorem cell_alloc {w : World} {p : Addr} {v : Value} {o : Obj} (h : w.cell? p = some v) : (w.alloc o).cell? p = some v :=
  (World.cell?_of_block ((World.grownBy_alloc w o none).block p.block (World.block_lt_of_cell? w p h) (by simp))).trans h
theorem cell_nw {w w' : World} {p : Addr} {v : Value} (h : w.cell? p = some v) (k : Nw w w') : w'.cell? p = some v :=
  (World.cell?_of_block (k.block p.block (World.block_lt_of_cell? w p h) (by simp))).trans h
/-- the first that is so, or -1 -/
def idxZ {α : Type} (p : α → Bool) (l : List α) : Int := match l.findIdx? p with | some i => i | none => -1
theorem idxZ_at {α : Type} {p : α → Bool} {l : List α} {k : Nat} {x : α} (hno : (l.take k).any p = false) (hx : l[k]? = some x) (hp : p x = true) : idxZ p l = k := by
  have h : l.findIdx? p = some k := by
    obtain ⟨hk, rfl⟩ := List.getElem?_eq_some_iff.1 hx
    rw [List.findIdx?_eq_some_iff_getElem]
    refine ⟨hk, hp, fun j hj => ?_⟩
    have := List.any_eq_false.1 hno l[j] (by rw [List.mem_take_iff_getElem]; exact ⟨j, by omega, rfl⟩)
    simpa using this
  unfold idxZ; rw [h]
theorem idxZ_no {α : Type} {p : α → Bool} {l : List α} (h : l.any p = false) : idxZ p l = -1 := by
  have : l.findIdx? p = none := by rw [List.findIdx?_eq_none_iff]; intro x hx; simpa using List.any_eq_false.1 h x hx
  unfold idxZ; rw [this]
theorem idxZ_nn {α : Type} (p : α → Bool) (l : List α) : decide (0 ≤ idxZ p l) = l.any p := by
  rcases h : l.any p with _ | _
  · rw [idxZ_no h]; decide
  · unfold idxZ
    rcases h2 : l.findIdx? p with _ | i
    · exfalso
      rw [List.findIdx?_eq_none_iff] at h2
      obtain ⟨x, hx, hp⟩ := List.any_eq_true.1 h
      have := h2 x hx; rw [hp] at this; cases this
    · simp
theorem any_snoc {α : Type} {p : α → Bool} {l : List α} {k : Nat} {x : α} (hno : (l.take k).any p = false) (hx : l[k]? = some x) : (l.take (k + 1)).any p = p x := by
  obtain ⟨hk, rfl⟩ := List.getElem?_eq_some_iff.1 hx
  rw [List.take_succ_eq_append_getElem hk, List.any_append, hno]; simp
def IdxPost (v : Int) (w : World) (e : Ending) (w' : World) : Prop := e = .returned (.int .i64 v) ∧ Nw w w'
end Go.Proofs.Ytobifmndpkjlmaa

