/- Lemmas on memory: reading a slice, owning a slice, append, make, copy, bytes as a string; for any program of the model; each under the premises that it states. -/
import Derived.WalkKit
import Derived.ProofKit
import Derived.BigQuiet
import Derived.Lib.Hide
import Derived.Deep.QuietTactic
import Derived.Deep.Draws
import Derived.Deep.LoopGhost
import Derived.Deep.AppendLies
import Derived.Laws.BytesArg
import Derived.OrdersHeld
import Derived.Laws.CopyOwn
import Derived.StillTailTactics
import Derived.Maps.AppendAt
import Derived.Laws.ResultCell
import Derived.StillTail
import Derived.MapKept
set_option linter.unusedVariables false
set_option linter.unusedSimpArgs false
/- Lemmas on memory: reading a slice, owning a slice, append, make, copy, bytes as a string; for any program of the model; each under the premises that it states. -/
namespace Go.BW
open Go.RowKit

/-- cells of bytes and of ints -/
def bv (x : UInt8) : Value := .int .u8 (x.toNat : Int)
def iv (x : Int) : Value := .int .i64 x

theorem ofInt_i64 (a : Nat) (ha : a < 9223372036854775808) : (BitVec.ofInt 64 (a : Int)).toNat = a := by
  rw [BitVec.ofInt_natCast, BitVec.toNat_ofNat]; exact Nat.mod_eq_of_lt (by omega)
theorem i64_and_nat (a b : Nat) (ha : a < 9223372036854775808) (hb : b < 9223372036854775808) : bits .and .i64 (a : Int) (b : Int) = ((a &&& b : Nat) : Int) := by
  have hx : a &&& b < 2 ^ 63 := Nat.and_lt_two_pow _ (by omega)
  show IntKind.i64.wrap ((BitVec.ofInt 64 (a : Int) &&& BitVec.ofInt 64 (b : Int)).toNat : Int) = _
  rw [BitVec.toNat_and, ofInt_i64 a ha, ofInt_i64 b hb, IntKind.wrap_i64]
  omega
theorem i64_or_nat (a b : Nat) (ha : a < 9223372036854775808) (hb : b < 9223372036854775808) : bits .or .i64 (a : Int) (b : Int) = ((a ||| b : Nat) : Int) := by
  have hx : a ||| b < 2 ^ 63 := Nat.or_lt_two_pow (by omega) (by omega)
  show IntKind.i64.wrap ((BitVec.ofInt 64 (a : Int) ||| BitVec.ofInt 64 (b : Int)).toNat : Int) = _
  rw [BitVec.toNat_or, ofInt_i64 a ha, ofInt_i64 b hb, IntKind.wrap_i64]
  omega
theorem or_byte (q : Int) (c : Nat) (h0 : 0 ≤ q) (h1 : q < 1099511627776) (hc : c < 256) : bits .or .i64 (q * 256) (c : Int) = q * 256 + c := by
  obtain ⟨n, rfl⟩ := Int.eq_ofNat_of_zero_le h0
  have e2 : n <<< 8 = n * 256 := by rw [Nat.shiftLeft_eq]
  have e : (n : Int) * (256 : Int) = ((n <<< 8 : Nat) : Int) := by rw [e2]; omega
  show bits .or .i64 ((n : Int) * (256 : Int)) (c : Int) = (n : Int) * (256 : Int) + c
  rw [e, i64_or_nat _ _ (by omega) (by omega), ← Nat.shiftLeft_add_eq_or_of_lt (by omega : c < 2 ^ 8)]
  omega

theorem and_mask (x : Int) (j : Nat) (hj : j ≤ 62) : bits .and .i64 x (2 ^ j - 1) = x % 2 ^ j := by
  have hp : (2 : Nat) ^ j ≤ 2 ^ 62 := Nat.pow_le_pow_right (by decide) hj
  have hp0 : 0 < (2 : Nat) ^ j := Nat.pow_pos (by decide)
  have e1 : ((2 : Int) ^ j - 1) = (((2 ^ j - 1 : Nat)) : Int) := by
    rw [Int.natCast_sub (by omega), Int.natCast_pow]; rfl
  have e2 : (BitVec.ofInt 64 ((2 : Int) ^ j - 1)).toNat = 2 ^ j - 1 := by
    rw [e1, BitVec.ofInt_natCast, BitVec.toNat_ofNat]; exact Nat.mod_eq_of_lt (by omega)
  show IntKind.i64.wrap ((BitVec.ofInt 64 x &&& BitVec.ofInt 64 ((2 : Int) ^ j - 1)).toNat : Int) = _
  rw [BitVec.toNat_and, e2, Nat.and_two_pow_sub_one_eq_mod, BitVec.toNat_ofInt, IntKind.wrap_i64]
  have h1 : 0 ≤ x % ((2 ^ 64 : Nat) : Int) := Int.emod_nonneg _ (by decide)
  have e3 : (((x % ((2 ^ 64 : Nat) : Int)).toNat % 2 ^ j : Nat) : Int) = x % 2 ^ j := by
    rw [Int.natCast_emod, Int.toNat_of_nonneg h1, Int.natCast_pow]
    apply Int.emod_emod_of_dvd
    refine ⟨2 ^ (64 - j), ?_⟩
    rw [show (2 : Int) ^ (64 - j) = ((2 ^ (64 - j) : Nat) : Int) from by rw [Int.natCast_pow]; rfl, ← Int.natCast_mul, ← Nat.pow_add, show j + (64 - j) = 64 from by omega, Int.natCast_pow]
  have hlt : (x % ((2 ^ 64 : Nat) : Int)).toNat % 2 ^ j < 2 ^ j := Nat.mod_lt _ hp0
  rw [e3] 
  have h2 : 0 ≤ x % 2 ^ j := by rw [← e3]; omega
  have h3 : x % 2 ^ j < 4611686018427387904 := by rw [← e3]; omega
  omega
/-- only new memory has come -/
abbrev Nw (w w' : World) : Prop := w.grownBy w' none

section
variable {w w' w'' : World} {row : Option Nat}
theorem gb_trans {w1 w2 w3 : World} (h : w1.grownBy w2 row) (k : w2.grownBy w3 row) : w1.grownBy w3 row :=
  ⟨k.os.trans h.os, k.tape.trans h.tape, k.output.trans h.output, Nat.le_trans h.size k.size, fun i hi hne => (k.block i (Nat.lt_of_lt_of_le hi h.size) hne).trans (h.block i hi hne)⟩
theorem gb_nw (h : Nw w w') : w.grownBy w' row := ⟨h.os, h.tape, h.output, h.size, fun i hi _ => h.block i hi (by simp)⟩
theorem gb_drewN {w1 w2 : World} (h : w1.grownBy w2 row) (n : Nat) : w1.grownBy (w2.drewN n) row := ⟨h.os, h.tape, h.output, h.size, h.block⟩
theorem gb_drew {w1 w2 : World} (h : w1.grownBy w2 row) : w1.grownBy w2.drew row := ⟨h.os, h.tape, h.output, h.size, h.block⟩
theorem gb_of_drew {w1 w2 : World} (h : w1.drew.grownBy w2 row) : w1.grownBy w2 row := ⟨h.os, h.tape, h.output, h.size, h.block⟩
theorem gb_alloc {w1 w2 : World} (h : w1.grownBy w2 row) (o : Obj) : w1.grownBy (w2.alloc o) row :=
  ⟨h.os, h.tape, h.output, Nat.le_trans h.size (by simp), fun i hi hne => (Below.heap_alloc w2 o i (Nat.lt_of_lt_of_le hi h.size)).trans (h.block i hi hne)⟩
theorem gb_set {a w2 : World} (h : a.grownBy w2 row) {p : Addr} (hp : some p.block = row ∨ a.heap.size ≤ p.block) (u : Value) : a.grownBy (w2.setCell p u) row :=
  ⟨h.os, h.tape, h.output, by simpa [World.setCell] using h.size, fun i hi hne => (Below.heap_setCell w2 p u i (by
    rintro rfl
    rcases hp with hp | hp
    · exact hne hp
    · omega)).trans (h.block i hi hne)⟩
/-- a write to what is new -/
theorem nw_of_gb {a w1 w2 : World} (h : Nw a w1) (k : w1.grownBy w2 row) (hr : ∀ g, row = some g → a.heap.size ≤ g) : Nw a w2 :=
  ⟨k.os.trans h.os, k.tape.trans h.tape, k.output.trans h.output, Nat.le_trans h.size k.size, fun i hi hne => (k.block i (Nat.lt_of_lt_of_le hi h.size) (fun e => by
    have := hr i e.symm; omega)).trans (h.block i hi hne)⟩
theorem Nw.refl (w : World) : Nw w w := ⟨rfl, rfl, rfl, Nat.le_refl _, fun _ _ _ => rfl⟩
theorem Nw.below (h : Nw w w') : Below w.heap.size w w' := ⟨h.os, h.tape, h.output, h.size, fun i hi => h.block i hi (by simp)⟩
theorem nw_below (h : Below w.heap.size w w') : Nw w w' := ⟨h.os, h.tape, h.output, h.size, fun i hi _ => h.block i hi⟩
theorem nw_eq (h : w = w') : Nw w w' := h ▸ Nw.refl w
end

/-- the slice at A, n elements of 'size' cells each, reads as xs; it lies below block B -/
def Rd (w : World) (B size : Nat) (A : Option Addr) (n : Nat) (xs : List Value) : Prop :=
  xs.length = n * size ∧ (0 < n → ∃ b off, A = some ⟨b, off, none⟩ ∧ b < B ∧ ∀ j u, xs[j]? = some u → w.cell? ⟨b, off + j, none⟩ = some u)

/-- the slice at A is the call's own, from block 'base' on -/
def Own (w : World) (base : Nat) (e : TypeId) (size : Nat) (A : Option Addr) (n c : Nat) (xs : List Value) : Prop :=
  w.ownsRow base e size (.slice A n c) n xs

section
variable {w w' : World} {B B' size n c base : Nat} {A : Option Addr} {xs : List Value} {e : TypeId} {row : Option Nat}
theorem Rd.nil : Rd w B size A 0 [] := ⟨by simp, fun h => absurd h (by omega)⟩
theorem Rd.keep (h : Rd w B size A n xs) (hk : ∀ p : Addr, p.block < B → w'.cell? p = w.cell? p) : Rd w' B size A n xs :=
  ⟨h.1, fun hn => by
    obtain ⟨b, off, e, hb, hc⟩ := h.2 hn
    exact ⟨b, off, e, hb, fun j u hu => (hk _ hb).trans (hc j u hu)⟩⟩
theorem Rd.more (h : Rd w B size A n xs) (hB : B ≤ B') : Rd w B' size A n xs :=
  ⟨h.1, fun hn => by
    obtain ⟨b, off, e, hb, hc⟩ := h.2 hn
    exact ⟨b, off, e, by omega, hc⟩⟩
theorem Rd.below (h : Rd w B size A n xs) (hb : Below B w w') : Rd w' B size A n xs := h.keep fun _ hp => hb.cell hp
theorem Rd.nw (h : Rd w B size A n xs) (hb : Nw w w') (hB : B ≤ w.heap.size) : Rd w' B size A n xs :=
  h.keep fun p hp => World.cell?_of_block (hb.block p.block (by omega) (by simp))
theorem Rd.gb (h : Rd w B size A n xs) (hb : w.grownBy w' row) (hB : B ≤ w.heap.size) (hr : ∀ g, row = some g → B ≤ g) : Rd w' B size A n xs :=
  h.keep fun p hp => World.cell?_of_block (hb.block p.block (by omega) (fun e => by have := hr _ e.symm; omega))
theorem Rd.drew (h : Rd w B size A n xs) : Rd w.drew B size A n xs := h
theorem Rd.drewN (h : Rd w B size A n xs) (k : Nat) : Rd (w.drewN k) B size A n xs := h
theorem Rd.at1 {k : Nat} (h : Rd w B 1 A n xs) (hk : k < n) : ∃ b off u, A = some ⟨b, off, none⟩ ∧ xs[k]? = some u ∧ w.cell? ⟨b, off + k, none⟩ = some u := by
  obtain ⟨b, off, e, hb, hc⟩ := h.2 (by omega)
  have hl : k < xs.length := by have := h.1; omega
  exact ⟨b, off, xs[k], e, List.getElem?_eq_getElem hl, hc k _ (List.getElem?_eq_getElem hl)⟩
/-- an int out of a slice of ints -/
theorem Rd.atI {zs : List Int} {k : Nat} (h : Rd w B 1 A n (zs.map iv)) (hk : k < n) : ∃ b off, A = some ⟨b, off, none⟩ ∧ ∃ hz : k < zs.length, w.cell? ⟨b, off + k, none⟩ = some (.int .i64 zs[k]) := by
  obtain ⟨b, off, u, e, hu, hc⟩ := h.at1 hk
  have hl : k < zs.length := by have := h.1; simp at this; omega
  simp only [List.getElem?_map, List.getElem?_eq_getElem hl, Option.map_some, Option.some.injEq] at hu
  subst hu
  exact ⟨b, off, e, hl, hc⟩
theorem Rd.atB {zs : List UInt8} {k : Nat} (h : Rd w B 1 A n (zs.map bv)) (hk : k < n) : ∃ b off, A = some ⟨b, off, none⟩ ∧ ∃ hz : k < zs.length, w.cell? ⟨b, off + k, none⟩ = some (.int .u8 (zs[k].toNat : Int)) := by
  obtain ⟨b, off, u, e, hu, hc⟩ := h.at1 hk
  have hl : k < zs.length := by have := h.1; simp at this; omega
  simp only [List.getElem?_map, List.getElem?_eq_getElem hl, Option.map_some, Option.some.injEq] at hu
  subst hu
  exact ⟨b, off, e, hl, hc⟩
/-- .. out of any row of cells, each the value of an element -/
theorem Rd.atF {α : Type} {f : α → Value} {zs : List α} {k : Nat} (h : Rd w B 1 A n (zs.map f)) (hk : k < n) : ∃ b off, A = some ⟨b, off, none⟩ ∧ ∃ hz : k < zs.length, w.cell? ⟨b, off + k, none⟩ = some (f zs[k]) := by
  obtain ⟨b, off, u, e, hu, hc⟩ := h.at1 hk
  have hl : k < zs.length := by have := h.1; simp at this; omega
  simp only [List.getElem?_map, List.getElem?_eq_getElem hl, Option.map_some, Option.some.injEq] at hu
  subst hu
  exact ⟨b, off, e, hl, hc⟩
theorem Rd.take (h : Rd w B size A n xs) {k : Nat} (hk : k ≤ n) : Rd w B size A k (xs.take (k * size)) := by
  refine ⟨by rw [List.length_take, h.1]; exact Nat.min_eq_left (Nat.mul_le_mul_right _ hk), fun hn => ?_⟩
  obtain ⟨b, off, e, hb, hc⟩ := h.2 (by omega)
  refine ⟨b, off, e, hb, fun j u hu => hc j u ?_⟩
  rw [List.getElem?_take] at hu
  split at hu
  · exact hu
  · cases hu
theorem Rd.drop (h : Rd w B size A n xs) {k cap : Nat} (hk : k ≤ n) (hc : n ≤ cap) :
    Rd w B size (if cap = k then A else A.map (·.add (k * size))) (n - k) (xs.drop (k * size)) := by
  refine ⟨by rw [List.length_drop, h.1, Nat.sub_mul], fun hn => ?_⟩
  obtain ⟨b, off, rfl, hb, hcell⟩ := h.2 (by omega)
  rw [if_neg (by omega)]
  refine ⟨b, off + k * size, ?_, hb, fun j u hu => ?_⟩
  · simp only [Option.map_some, Option.some.injEq]
    unfold Addr.add
    split
    · next h0 => rw [h0]; rfl
    · rfl
  · rw [Nat.add_assoc]
    exact hcell _ u (by rw [← hu, List.getElem?_drop])

theorem Rd.atN {k : Nat} (h : Rd w B size A n xs) (hk : k < n) (hs : 0 < size) : ∃ b off, A = some ⟨b, off, none⟩ ∧ b < B ∧ ((xs.drop (k * size)).take size).length = size ∧ ∀ j u, ((xs.drop (k * size)).take size)[j]? = some u → w.cell? ⟨b, off + k * size + j, none⟩ = some u := by
  obtain ⟨b, off, e, hb, hc⟩ := h.2 (by omega)
  have hl : k * size + size ≤ xs.length := by
    rw [h.1]
    have := Nat.mul_le_mul_right size (Nat.succ_le_of_lt hk)
    rwa [Nat.succ_mul] at this
  refine ⟨b, off, e, hb, by rw [List.length_take, List.length_drop]; omega, fun j u hu => ?_⟩
  rw [List.getElem?_take] at hu
  split at hu
  · rw [List.getElem?_drop] at hu
    rw [Nat.add_assoc]
    exact hc _ u hu
  · cases hu
theorem Rd.flat (h : Rd w B size A n xs) : Rd w B 1 A (n * size) xs :=
  ⟨by rw [Nat.mul_one]; exact h.1, fun hn => h.2 (by rcases Nat.eq_zero_or_pos n with h0 | h0; · rw [h0, Nat.zero_mul] at hn; omega
                                                     · exact h0)⟩
theorem Rd.elem {k : Nat} (h : Rd w B size A n xs) (hk : k < n) (hs : 0 < size) : ∃ b off, A = some ⟨b, off, none⟩ ∧ Rd w B 1 (some ⟨b, off + k * size, none⟩) size ((xs.drop (k * size)).take size) := by
  obtain ⟨b, off, e, hb, hl, hc⟩ := h.atN hk hs
  exact ⟨b, off, e, by rw [Nat.mul_one]; exact hl, fun _ => ⟨b, _, rfl, hb, hc⟩⟩
theorem Own.nil : Own w base e size none 0 0 [] := World.ownsRow_nil w base e size
theorem Own.len (h : Own w base e size A n c xs) : xs.length = n * size := h.1
theorem Own.rd (h : Own w base e size A n c xs) : Rd w w.heap.size size A n xs := by
  refine ⟨h.1, fun hn => ?_⟩
  rcases h.2 with ⟨_, h0⟩ | ⟨g, cap, cur, hv, hb, hg, _⟩
  · omega
  · have hA : A = some ⟨g, 0, none⟩ := by injection hv
    subst hA
    refine ⟨g, 0, rfl, (Array.getElem?_eq_some_iff.1 hg).1, fun j u hu => ?_⟩
    have := World.ownsRow.cells (w := w) h (g := g) rfl j u hu
    rw [Nat.zero_add]
    have hadd : (⟨g, 0, none⟩ : Addr).add j = ⟨g, j, none⟩ := by unfold Addr.add; split <;> simp_all
    rwa [hadd] at this
theorem Own.kept (h : Own w base e size A n c xs) (hg : w.grownBy w' row) (hne : ∀ g, row = some g → (Value.slice A n c).ownBlock ≠ some g) : Own w' base e size A n c xs :=
  World.ownsRow.kept h hg (by
    rcases row with _ | g
    · cases hv : (Value.slice A n c).ownBlock
      · exact .inl rfl
      · exact .inr (by simp)
    · exact .inr (hne g rfl))
theorem Own.nw (h : Own w base e size A n c xs) (hg : Nw w w') : Own w' base e size A n c xs := h.kept hg (by intro g h; cases h)
theorem Own.more (h : Own w base e size A n c xs) (hb : B ≤ base) : Own w B e size A n c xs := by
  refine ⟨h.1, ?_⟩
  rcases h.2 with h2 | ⟨g, cap, cur, hv, hg, r⟩
  · exact .inl h2
  · exact .inr ⟨g, cap, cur, hv, by omega, r⟩
theorem Own.drew (h : Own w base e size A n c xs) : Own w.drew base e size A n c xs := h
theorem Own.drewN (h : Own w base e size A n c xs) (k : Nat) : Own (w.drewN k) base e size A n c xs := h
theorem Own.blk (h : Own w base e size A n c xs) : ∀ g, (Value.slice A n c).ownBlock = some g → base ≤ g := fun g hg => (World.ownsRow.lt h g hg).1
theorem Own.some_ (h : Own w base e size A n c xs) (hn : 0 < n) : ∃ g, A = some ⟨g, 0, none⟩ ∧ base ≤ g := by
  rcases h.2 with ⟨_, h3⟩ | ⟨g, cap, cur, hv, hb, _⟩
  · omega
  · injection hv with h1; exact ⟨g, h1, hb⟩
theorem Own.cap (h : Own w base e size A n c xs) : n ≤ c ∧ c ≤ maxLen := by
  rcases h.2 with ⟨h2, h3⟩ | ⟨g, cap, cur, hv, _, _, h4, h5, _⟩
  · injection h2 with _ _ h2; subst h2; subst h3; simp
  · injection hv with _ _ h2; subst h2; exact ⟨h4, h5⟩
end

/-- what a call that makes a new slice leaves -/
def RetOwn (ty size : Nat) (xs : List Value) (w : World) (e : Ending) (w' : World) : Prop :=
  ∃ A' n' c', e = .returned (.slice A' n' c') ∧ Own w' w.heap.size ty size A' n' c' xs ∧ Nw w w'
/-- what a call that only computes leaves -/
def Ret (v : Value) (w : World) (e : Ending) (w' : World) : Prop := e = .returned v ∧ Nw w w'

theorem Own.cellAt {w : World} {base g n c : Nat} {e : TypeId} {xs : List Value} (h : Own w base e 1 (some ⟨g, 0, none⟩) n c xs) {k : Nat} (hk : k < n) :
    ∃ u, xs[k]? = some u ∧ w.cell? ⟨g, k, none⟩ = some u ∧ w.frozen? ⟨g, k, none⟩ = false := by
  have hl : k < xs.length := by have := h.len; omega
  exact ⟨xs[k], List.getElem?_eq_getElem hl, (World.ownsRow.cellAt h k (by omega)).trans (List.getElem?_eq_getElem hl), World.ownsRow.frozenAt h k⟩
theorem Own.cellN {w : World} {base g n c size : Nat} {e : TypeId} {xs : List Value} (h : Own w base e size (some ⟨g, 0, none⟩) n c xs) {k : Nat} (hk : k < n * size) :
    ∃ u, xs[k]? = some u ∧ w.cell? ⟨g, k, none⟩ = some u ∧ w.frozen? ⟨g, k, none⟩ = false := by
  have hl : k < xs.length := by have := h.len; omega
  exact ⟨xs[k], List.getElem?_eq_getElem hl, (World.ownsRow.cellAt h k (by omega)).trans (List.getElem?_eq_getElem hl), World.ownsRow.frozenAt h k⟩
theorem Own.set {w : World} {base g n c size : Nat} {e : TypeId} {xs : List Value} (h : Own w base e size (some ⟨g, 0, none⟩) n c xs) (k : Nat) (u : Value) :
    Own (w.setCell ⟨g, k, none⟩ u) base e size (some ⟨g, 0, none⟩) n c (xs.set k u) ∧ w.grownBy (w.setCell ⟨g, k, none⟩ u) (some g) := World.ownsRow.stored h k u

/-- of one slice type's row of the table: t a slice of e, e's zero, its cells and its bytes -/
structure El (P : Program) (t e : TypeId) (z : Value) (size bytes : Nat) : Prop where
  und : P.underlying t = some (.slice e)
  info : ∃ i, P.info? e = some i ∧ i.zero = some z ∧ i.size = size ∧ i.bytes = bytes
  zs : z.cells.size = size
  pos : 0 < size
theorem El.mk' {P : Program} {t e : TypeId} {z : Value} {size bytes : Nat} (hu : P.underlying t = some (.slice e)) (h : (P.info? e).map (fun i => (i.zero, i.size, i.bytes)) = some (some z, size, bytes))
    (hz : z.cells.size = size) (hp : 0 < size) : El P t e z size bytes := ⟨hu, info_parts h, hz, hp⟩

section
variable {P : Program} {t e : TypeId} {z : Value} {size bytes : Nat}

/-- append to a slice that is the call's own -/
theorem run_app_own (T : El P t e z size bytes) (ty : TypeId) {w : World} {base : Nat} {A : Option Addr} {n c : Nat} {xs : List Value} (hown : Own w base e size A n c xs)
    {B : Nat} {X : Option Addr} {m d : Nat} {news : List Value} (hr : Rd w B size X m news) (h1 : ∀ u ∈ news, u.oneCell' = true) (h63 : (n + m) * bytes ≤ 140737488355328) (h64 : n + m ≤ maxLen) (hbase : base ≤ w.heap.size) :
    ∃ A' c' w', (Builtin.append_ #[t, t] ty #[.slice A n c, .slice X m d]).run P w = .ok (.slice A' (n + m) c') w' ∧ Own w' base e size A' (n + m) c' (xs ++ news) ∧ w.grownBy w' (Value.slice A n c).ownBlock ∧
      ((Value.slice A' (n + m) c').ownBlock = (Value.slice A n c).ownBlock ∨ (Value.slice A' (n + m) c').ownBlock = some w.heap.size) := by
  obtain ⟨i, hi, hz, hsize, hby⟩ := T.info
  rcases Nat.eq_zero_or_pos m with h0 | h0
  · subst h0
    have hn : news = [] := List.eq_nil_of_length_eq_zero (by simpa using hr.1)
    subst hn
    refine ⟨A, c, w, ?_, by simpa using hown, World.grownBy.refl w _, .inl rfl⟩
    have ⟨hc, _⟩ := hown.cap
    rcases A with _ | a
    · rcases hown.2 with ⟨h2, _⟩ | ⟨g, cap, cur, hv, _⟩
      · injection h2 with _ h2 h3; subst h2; subst h3
        rcases X with _ | x <;> simp [Builtin.append_, run_underlying T.und, sizeOf, typeInfo, hi, Builtin.lenOf, Builtin.firstCells, loadCells, loadCellsFrom]
      · injection hv with h2; cases h2
    · rcases X with _ | x <;> simp [Builtin.append_, run_underlying T.und, sizeOf, typeInfo, hi, Builtin.lenOf, Builtin.firstCells, loadCells, loadCellsFrom, hc, storeCells]
  · obtain ⟨b, off, rfl, hb, hcell⟩ := hr.2 h0
    have hcells : ∀ j u, news[j]? = some u → w.cell? ((⟨b, off, none⟩ : Addr).add j) = some u := by
      intro j u hu
      have : (⟨b, off, none⟩ : Addr).add j = ⟨b, off + j, none⟩ := by unfold Addr.add; split <;> simp_all
      rw [this]; exact hcell j u hu
    obtain ⟨v', w', hrun, h2, h3, _, h5⟩ := run_append_own_at (P := P) w base t ty e i z size bytes T.und hi hz hsize hby T.zs T.pos _ n xs hown ⟨b, off, none⟩ m d news hr.1 hcells h1 h64 h63 hbase
    have hv : ∃ A' c', v' = .slice A' (n + m) c' := by
      rcases h2.2 with ⟨rfl, h⟩ | ⟨g, cap, cur, rfl, _⟩
      · exact ⟨none, 0, by rw [h]⟩
      · exact ⟨_, _, rfl⟩
    obtain ⟨A', c', rfl⟩ := hv
    exact ⟨A', c', w', hrun, h2, h3, h5⟩

/-- append to a slice that is full: it goes on elsewhere -/
theorem run_app_full (T : El P t e z size bytes) (ty : TypeId) {w : World} {base B : Nat} {A : Option Addr} {n : Nat} {xs : List Value} (hfull : Rd w B size A n xs)
    {B' : Nat} {X : Option Addr} {m d : Nat} {news : List Value} (hr : Rd w B' size X m news) (hm : 0 < m) (h63 : (n + m) * bytes ≤ 140737488355328) (h64 : n + m ≤ maxLen) (hbase : base ≤ w.heap.size) :
    ∃ A' c' w', (Builtin.append_ #[t, t] ty #[.slice A n n, .slice X m d]).run P w = .ok (.slice A' (n + m) c') w' ∧ Own w' base e size A' (n + m) c' (xs ++ news) ∧ Nw w w' := by
  obtain ⟨i, hi, hz, rfl, rfl⟩ := T.info
  obtain ⟨b, off, rfl, hb, hcell⟩ := hr.2 hm
  have hadd : ∀ (b off j : Nat), (⟨b, off, none⟩ : Addr).add j = ⟨b, off + j, none⟩ := by intro b off j; unfold Addr.add; split <;> simp_all
  have hcells : ∀ j u, news[j]? = some u → w.cell? ((⟨b, off, none⟩ : Addr).add j) = some u := fun j u hu => by rw [hadd]; exact hcell j u hu
  have h63' : ((n + m : Nat) : Int) ≤ 9223372036854775807 := by simp only [maxLen] at h64; omega
  have grown : ∀ (old : Nat), old < n + m →
      (w.drew.alloc (.cells (xs.toArray ++ news.toArray ++ Builtin.zeroCells z.cells (grownCap w (n + m) old e - (n + m))) e)).ownsRow base e i.size
        (.slice (some ⟨w.heap.size, 0, none⟩) (n + m) (grownCap w (n + m) old e)) (n + m) (xs ++ news) := by
    intro old ho
    have hge := grownCap_ge w (n + m) old e
    have hcm : grownCap w (n + m) old e ≤ maxLen := grownCap_le_maxLen w (n + m) old e h64
    have hlen : (xs ++ news).length = (n + m) * i.size := by rw [List.length_append, hfull.1, hr.1, Nat.add_mul]
    refine ⟨hlen, .inr ⟨w.heap.size, _, _, rfl, hbase, heap_alloc_new w.drew _, hge, hcm, ?_, ?_⟩⟩
    · simp only [Array.size_append, List.size_toArray, size_zeroCells, T.zs, hfull.1, hr.1]
      rw [← Nat.add_mul, ← Nat.add_mul]
      congr 1
      omega
    · simp only [Array.toList_append, List.append_assoc]
      rw [← List.append_assoc, ← hlen]
      exact List.take_left
  have hnw : ∀ o, Nw w (w.drew.alloc o) := fun o => gb_alloc (gb_drew (Nw.refl w)) o
  rcases A with _ | ⟨ab, ao, as⟩
  · have hn0 : n = 0 := by
      rcases Nat.eq_zero_or_pos n with h | h
      · exact h
      · obtain ⟨_, _, h, _⟩ := hfull.2 h; cases h
    subst hn0
    have hx : xs = [] := List.eq_nil_of_length_eq_zero (by simpa using hfull.1)
    subst hx
    have hrun := run_append_nil (P := P) w t ty e i z T.und hi hz _ m d news hr.1 hcells hm (by simpa using h63') (by have := h63; simp only [Nat.zero_add] at this; omega)
    have hg := grown 0 (by omega)
    simp only [Nat.zero_add, List.nil_append] at hg ⊢
    refine ⟨_, _, _, hrun, ?_, hnw _⟩
    unfold Own
    simpa using hg
  · have holds : ∀ j u, xs[j]? = some u → w.cell? ((⟨ab, ao, as⟩ : Addr).add j) = some u := by
      intro j u hu
      rcases Nat.eq_zero_or_pos n with h | h
      · subst h
        have hx : xs = [] := List.eq_nil_of_length_eq_zero (by simpa using hfull.1)
        subst hx; simp at hu
      · obtain ⟨b', off', h, _, hc'⟩ := hfull.2 h
        injection h with h
        rw [h, hadd]; exact hc' j u hu
    have hrun := run_append_grow (P := P) w t ty e i z T.und hi hz ⟨ab, ao, as⟩ n n xs hfull.1 holds _ m d news hr.1 hcells (by omega) h63' (growslice_fits (by omega) h63)
    exact ⟨_, _, _, hrun, grown n (by omega), hnw _⟩

/-- append to the empty literal: a copy -/
theorem run_conv_bytes {w : World} {B : Nat} {A : Option Addr} {n c : Nat} {bs : List UInt8} (src dst e : TypeId)
    (hs : P.underlying src = some (.slice e)) (he : P.underlying e = some (.int .u8)) (hd : P.underlying dst = some .string) (h : Rd w B 1 A n (bs.map bv)) :
    (convert src dst (.slice A n c)).run P w = .ok (.string ⟨bs.toArray⟩) w := by
  rw [run_convert_bytes_string w src dst e A n c hs he hd]
  have hl : bs.length = n := by have := h.1; simpa using this
  rcases A with _ | a
  · have hn : n = 0 := by
      rcases Nat.eq_zero_or_pos n with h' | h'
      · exact h'
      · obtain ⟨_, _, h, _⟩ := h.2 h'; cases h
    subst hn
    have hb : bs = [] := List.eq_nil_of_length_eq_zero hl
    subst hb
    simp [Conv.bytesToString]
    rfl
  · have hload : (loadCells a n).run P w = .ok ((bs.map (fun x => (x.toNat : Int))).map (Value.int .u8)).toArray w := by
      have hf := run_firstCells_some (P := P) w 1 n a n c (bs.map bv) (by simpa using hl) (by
        intro j u hu
        rcases Nat.eq_zero_or_pos n with h' | h'
        · subst h'
          have hb : bs = [] := List.eq_nil_of_length_eq_zero hl
          subst hb; simp at hu
        · obtain ⟨b, off, e, _, hc⟩ := h.2 h'
          injection e with e
          subst e
          have : (⟨b, off, none⟩ : Addr).add j = ⟨b, off + j, none⟩ := by unfold Addr.add; split <;> simp_all
          rw [this]; exact hc j u hu)
      simp only [Builtin.firstCells, Nat.mul_one] at hf
      rw [hf]
      simp [bv, Function.comp_def]
    rw [run_bytesToString w a n c _ hload, foldl_push_bytes]
    congr 2
    simp [Function.comp_def]

/-! ### the walk's laws -/
section
variable {ops : Array Oper} {rest : List Oper} {o : Oper} {a : Act} {Q : Exit → Act → World → Prop} {w : World}
theorem wpList_ran (hw : Region.wanted o (yielded ops a.tmps) = true) {v : Value} {w' : World} (h : (execOp a.eval o).run P w = .ok (.value v) w')
    (hK : wpList P ops Q rest (a.put o.dst v) w') : wpList P ops Q (o :: rest) a w := by
  unfold wpList
  rw [if_pos hw]
  left
  unfold Oper.wp
  rw [h]
  exact hK
theorem run_exec_append {s x : Operand} {t : TypeId} (hop : o.op = .call { callee := .builtin .append, args := #[s, x], argTypes := #[t, t] }) {v : Value} {w' : World}
    (h : (Builtin.append_ #[t, t] o.type #[a.eval s, a.eval x]).run P w = .ok v w') : (execOp a.eval o).run P w = .ok (.value v) w' := by
  unfold execOp
  simp only [hop, resolve, invoke, builtin, Sem.run_bind, Sem.run_pure, Result.andThen_ok, List.map_toArray, List.map_cons, List.map_nil, h]

/-- 'append(s, x...)', s the call's own -/
theorem wpList_app_own (T : El P t e z size bytes) (s x : Operand) (hop : o.op = .call { callee := .builtin .append, args := #[s, x], argTypes := #[t, t] }) (hw : Region.wanted o (yielded ops a.tmps) = true)
    {base : Nat} {A : Option Addr} {n c : Nat} {xs : List Value} (hs : a.eval s = .slice A n c) {B : Nat} {X : Option Addr} {m d : Nat} {news : List Value} (hx : a.eval x = .slice X m d)
    (hown : Own w base e size A n c xs) (hr : Rd w B size X m news) (h1 : ∀ u ∈ news, u.oneCell' = true) (hsm : (n + m) * bytes ≤ 140737488355328 ∧ n + m ≤ maxLen) (hbase : base ≤ w.heap.size)
    (hK : ∀ A' c' w', Own w' base e size A' (n + m) c' (xs ++ news) → w.grownBy w' (Value.slice A n c).ownBlock →
      ((Value.slice A' (n + m) c').ownBlock = (Value.slice A n c).ownBlock ∨ (Value.slice A' (n + m) c').ownBlock = some w.heap.size) → wpList P ops Q rest (a.put o.dst (.slice A' (n + m) c')) w') :
    wpList P ops Q (o :: rest) a w := by
  obtain ⟨A', c', w', hrun, h2, h3, h4⟩ := run_app_own T o.type hown (d := d) hr h1 hsm.1 hsm.2 hbase
  exact wpList_ran hw (run_exec_append hop (by rw [hs, hx]; exact hrun)) (hK A' c' w' h2 h3 h4)

theorem rd_one {w0 : World} {u : Value} {e : TypeId} : Rd (w0.alloc (.cells #[u] e)) (w0.heap.size + 1) 1 (some ⟨w0.heap.size, 0, none⟩) 1 [u] := by
  refine ⟨rfl, fun _ => ⟨_, _, rfl, by omega, fun j v hv => ?_⟩⟩
  have hj : j = 0 := by
    rcases j with _ | j
    · rfl
    · simp at hv
  subst hj
  have hc := cell_of_row (w0.alloc (.cells #[u] e)) w0.heap.size 0 #[u] e (0, 0) (heap_alloc_new w0 _)
  obtain rfl : u = v := by simpa using hv
  exact hc

/-- 'append(s, u)', s the call's own; the block of the one element is forgotten -/
theorem wpList_app1_own {w0 : World} {u : Value} (T : El P t e z 1 bytes) (s x : Operand) (hop : o.op = .call { callee := .builtin .append, args := #[s, x], argTypes := #[t, t] }) (hw : Region.wanted o (yielded ops a.tmps) = true)
    {base : Nat} {A : Option Addr} {n c : Nat} {xs : List Value} (hs : a.eval s = .slice A n c) (hx : a.eval x = .slice (some ⟨w0.heap.size, 0, none⟩) 1 1)
    (hown : Own w0 base e 1 A n c xs) (h1 : u.oneCell' = true) (hsm : (n + 1) * bytes ≤ 140737488355328 ∧ n + 1 ≤ maxLen) (hbase : base ≤ w0.heap.size)
    (hK : ∀ A' c' w', Own w' base e 1 A' (n + 1) c' (xs ++ [u]) → w0.grownBy w' (Value.slice A n c).ownBlock →
      ((Value.slice A' (n + 1) c').ownBlock = (Value.slice A n c).ownBlock ∨ ∃ g, w0.heap.size ≤ g ∧ (Value.slice A' (n + 1) c').ownBlock = some g) → wpList P ops Q rest (a.put o.dst (.slice A' (n + 1) c')) w') :
    wpList P ops Q (o :: rest) a (w0.alloc (.cells #[u] e)) := by
  refine wpList_app_own T s x hop hw hs hx (World.ownsRow.alloc hown _) rd_one (by simpa using h1) hsm (by simp; omega) fun A' c' w' h2 h3 h4 => hK A' c' w' h2 ?_ ?_
  · exact gb_trans (World.grownBy_alloc w0 _ _) h3
  · rcases h4 with h4 | h4
    · exact .inl h4
    · exact .inr ⟨_, by simp, h4⟩

/-- 'append(s, u)', s full (its capacity is its length) and not the call's own: it goes on elsewhere -/
theorem wpList_app1_full {w0 : World} {u : Value} (T : El P t e z 1 bytes) (s x : Operand) (hop : o.op = .call { callee := .builtin .append, args := #[s, x], argTypes := #[t, t] }) (hw : Region.wanted o (yielded ops a.tmps) = true)
    (base : Nat) {B : Nat} {A : Option Addr} {n : Nat} {xs : List Value} (hs : a.eval s = .slice A n n) (hx : a.eval x = .slice (some ⟨w0.heap.size, 0, none⟩) 1 1)
    (hrd : Rd w0 B 1 A n xs) (hB : B ≤ w0.heap.size) (hsm : (n + 1) * bytes ≤ 140737488355328 ∧ n + 1 ≤ maxLen) (hbase : base ≤ w0.heap.size)
    (hK : ∀ A' c' w', Own w' base e 1 A' (n + 1) c' (xs ++ [u]) → Nw w0 w' → wpList P ops Q rest (a.put o.dst (.slice A' (n + 1) c')) w') :
    wpList P ops Q (o :: rest) a (w0.alloc (.cells #[u] e)) := by
  obtain ⟨A', c', w', hrun, h2, h3⟩ := run_app_full T o.type (hrd.nw (World.grownBy_alloc w0 (.cells #[u] e) none) hB) (d := 1) (rd_one (w0 := w0) (u := u) (e := e)) (by omega) hsm.1 hsm.2 (base := base) (by simp; omega)
  exact wpList_ran hw (run_exec_append hop (by rw [hs, hx]; exact hrun)) (hK A' c' w' h2 (gb_trans (World.grownBy_alloc w0 _ none) h3))

/-- 'append([]T{}, x...)': a copy -/
theorem wpList_app_lit {w0 : World} (T : El P t e z size bytes) (s x : Operand) (hop : o.op = .call { callee := .builtin .append, args := #[s, x], argTypes := #[t, t] }) (hw : Region.wanted o (yielded ops a.tmps) = true)
    (base : Nat) (hs : a.eval s = .slice (some ⟨w0.heap.size, 0, none⟩) 0 0) {B : Nat} {X : Option Addr} {m d : Nat} {news : List Value} (hx : a.eval x = .slice X m d)
    (hr : Rd w0 B size X m news) (hB : B ≤ w0.heap.size) (h1 : ∀ u ∈ news, u.oneCell' = true) (hsm : m * bytes ≤ 140737488355328 ∧ m ≤ maxLen) (hbase : base ≤ w0.heap.size)
    (hK : ∀ A' c' w', Own w' base e size A' m c' news → Nw w0 w' → wpList P ops Q rest (a.put o.dst (.slice A' m c')) w') :
    wpList P ops Q (o :: rest) a (w0.alloc (.cells #[] e)) := by
  have hown : Own (w0.alloc (.cells #[] e)) w0.heap.size e size (some ⟨w0.heap.size, 0, none⟩) 0 0 [] := World.ownsRow_made w0 #[] 0 (Nat.le_refl _) (by simp) (by simp)
  refine wpList_app_own T s x hop hw hs hx hown (hr.nw (World.grownBy_alloc w0 _ none) hB) h1 (by simpa using hsm) (by simp) fun A' c' w' h2 h3 _ => ?_
  rw [Nat.zero_add] at h2 ⊢
  exact hK A' c' w' (by simpa using h2.more hbase) (nw_of_gb (World.grownBy_alloc w0 _ none) h3 (by simp [Value.ownBlock]))
end
end

section
variable {P : Program} {t e : TypeId} {z : Value} {size bytes : Nat}
variable {ops : Array Oper} {rest : List Oper} {o : Oper} {a : Act} {Q : Exit → Act → World → Prop} {w : World}

/-- 'string(bytes)' -/
theorem wpList_bytes_str (src dst e : TypeId) (hs : P.underlying src = some (.slice e)) (he : P.underlying e = some (.int .u8)) (hd : P.underlying dst = some .string) (x : Operand)
    (hop : o.op = .convert src dst x) (hw : Region.wanted o (yielded ops a.tmps) = true) {B n c : Nat} {A : Option Addr} {bs : List UInt8} (hx : a.eval x = .slice A n c) (hr : Rd w B 1 A n (bs.map bv))
    (hK : wpList P ops Q rest (a.put o.dst (.string ⟨bs.toArray⟩)) w) : wpList P ops Q (o :: rest) a w := by
  refine wpList_ran hw (w' := w) (v := .string ⟨bs.toArray⟩) ?_ hK
  unfold execOp
  simp only [hop, hx, Sem.run_bind, run_conv_bytes src dst e hs he hd hr, Result.andThen_ok, Sem.run_pure]
theorem rd_lit {w0 : World} (cs : List Value) (e : TypeId) (n : Nat) (h : cs.length = n) : Rd (w0.alloc (.cells cs.toArray e)) (w0.heap.size + 1) 1 (some ⟨w0.heap.size, 0, none⟩) n cs := by
  refine ⟨by simpa using h, fun _ => ⟨_, _, rfl, by omega, fun j v hv => ?_⟩⟩
  have hc := cell_of_row (w0.alloc (.cells cs.toArray e)) w0.heap.size j cs.toArray e (0, 0) (heap_alloc_new w0 _)
  rw [Nat.zero_add]
  exact hc.trans (by simpa using hv)

/-- 'make([]T, n)' -/
theorem wpList_make (T : El P t e z size bytes) (l c : Operand) (hop : o.op = .makeSlice t l c) (hw : Region.wanted o (yielded ops a.tmps) = true)
    (base : Nat) (kl kc : IntKind) (L C : Int) (n : Nat) (hl : a.eval l = .int kl L) (hc : a.eval c = .int kc C) (hL : L = (n : Int)) (hC : C = (n : Int)) (hsm : bytes * n ≤ 281474976710656 ∧ n ≤ maxLen) (hbase : base ≤ w.heap.size)
    (hK : ∀ g w', Own w' base e size (some ⟨g, 0, none⟩) n n (madeCells z.cells (n * size)).toList → Nw w w' → w.heap.size ≤ g → wpList P ops Q rest (a.put o.dst (.slice (some ⟨g, 0, none⟩) n n)) w') :
    wpList P ops Q (o :: rest) a w := by
  obtain ⟨i, hi, hz, hsize, rfl⟩ := T.info
  obtain ⟨w', hrun, h2, h3⟩ := run_make_full (P := P) w base t e i z size T.und hi hz hsize kl kc n hsm.1 hsm.2 hbase
  subst hL; subst hC
  refine wpList_ran hw (w' := w') (v := .slice (some ⟨w.heap.size, 0, none⟩) n n) ?_ (hK _ w' h2 h3 (Nat.le_refl _))
  unfold execOp
  simp only [hop, hl, hc, Sem.run_bind, hrun, Result.andThen_ok, Sem.run_pure]

theorem splice_take {α : Type} (L cs : List α) (N off : Nat) (h1 : N ≤ L.length) (h2 : off + cs.length ≤ N) : (splice L off cs).take N = splice (L.take N) off cs := by
  unfold splice
  obtain ⟨A, rest, rfl, hA⟩ : ∃ A rest, L = A ++ rest ∧ A.length = N := ⟨L.take N, L.drop N, (List.take_append_drop N L).symm, by rw [List.length_take]; omega⟩
  have e1 : (A ++ rest).take N = A := by rw [← hA]; exact List.take_left
  have t1 : (A ++ rest).take off = A.take off := List.take_append_of_le_length (by omega)
  have t2 : (A ++ rest).drop (off + cs.length) = A.drop (off + cs.length) ++ rest := List.drop_append_of_le_length (by omega)
  rw [e1, t1, t2, ← List.append_assoc, ← List.append_assoc, ← List.append_assoc]
  have e2 : N = (A.take off ++ cs ++ A.drop (off + cs.length)).length := by simp; omega
  rw [e2]
  exact List.take_left
/-- copy into a row of the call's own -/
theorem run_copy_mine {base g : Nat} {w : World} {n c off dLen dCap m d B : Nat} {X : Option Addr} {xs news : List Value} (dT sT ty elem : TypeId)
    (hu : P.underlying dT = some (.slice elem)) (hsz : (P.info? elem).map (·.size) = some 1) (hown : Own w base e size (some ⟨g, 0, none⟩) n c xs) (hr : Rd w B 1 X m news)
    (h1 : ∀ u ∈ news, u.oneCell' = true) (hfit : off + Nat.min m dLen ≤ n * size) :
    ∃ w', (Builtin.copy_ #[dT, sT] ty #[.slice (some ⟨g, off, none⟩) dLen dCap, .slice X m d]).run P w = .ok (goInt (Nat.min m dLen)) w' ∧
      Own w' base e size (some ⟨g, 0, none⟩) n c (splice xs off (news.take dLen)) ∧ w.grownBy w' (some g) := by
  have hnl : news.length = m := by simpa using hr.1
  have hcl : (news.take dLen).length = Nat.min m dLen := by rw [List.length_take, hnl]; exact Nat.min_comm _ _
  rcases Nat.eq_zero_or_pos (Nat.min m dLen) with h0 | h0
  · refine ⟨w, ?_, ?_, World.grownBy.refl w _⟩
    · rw [h0]; exact run_copy_none (P := P) w dT sT ty elem _ X dLen dCap m d hu hsz h0
    · have : news.take dLen = [] := List.eq_nil_of_length_eq_zero (by omega)
      simpa [splice, this] using hown
  · have hm : 0 < m := Nat.lt_of_lt_of_le h0 (Nat.min_le_left _ _)
    obtain ⟨b, o', rfl, _, hcell⟩ := hr.2 hm
    rcases hown.2 with ⟨h', _⟩ | ⟨g', cap, cur, hv, hb, hg, hnc, hcm, hcs, htake⟩
    · simp at h'
    · simp only [Value.slice.injEq, Option.some.injEq, Addr.mk.injEq, and_true, true_and] at hv
      obtain ⟨rfl, rfl⟩ := hv
      have hsrc : ∀ j v, (news.take dLen)[j]? = some v → w.cell? ((⟨b, o', none⟩ : Addr).add j) = some v := by
        intro j v hv
        have : (⟨b, o', none⟩ : Addr).add j = ⟨b, o' + j, none⟩ := by unfold Addr.add; split <;> simp_all
        rw [this]
        rw [List.getElem?_take] at hv
        split at hv
        · exact hcell j v hv
        · cases hv
      have hnn : n * size ≤ cur.size := by rw [hcs]; exact Nat.mul_le_mul_right _ hnc
      have hrun := run_copy_row (P := P) w dT sT ty elem g off dLen dCap ⟨b, o', none⟩ m d cur e (news.take dLen) hu hsz hg hcl hsrc (by omega) (fun u hu => h1 u (List.mem_of_mem_take hu))
      rw [hcl] at hrun
      refine ⟨_, hrun, ?_, ⟨rfl, rfl, rfl, by simp [World.setRow], fun k _ hk => setRow_other w g k _ (fun e => hk (by rw [e]))⟩⟩
      have hxl : xs.length = n * size := hown.1
      refine ⟨by rw [length_splice _ _ _ (by omega)]; exact hxl, .inr ⟨g, c, _, rfl, hb, setRow_heap w g cur _ e _ hg, hnc, hcm, ?_, ?_⟩⟩
      · have hL : (news.take dLen).length = min m dLen := hcl
        have hfit' : off + min m dLen ≤ n * size := hfit
        have hcu : cur.toList.length = cur.size := Array.length_toList
        show (cur.toList.take off ++ news.take dLen ++ cur.toList.drop (off + min m dLen)).toArray.size = _
        rw [List.append_assoc, ← hcs, List.size_toArray, ← hcu, ← hL]
        exact length_splice _ _ _ (by omega)
      · have hL : (news.take dLen).length = min m dLen := hcl
        have hcu : cur.toList.length = cur.size := Array.length_toList
        have hfit' : off + min m dLen ≤ n * size := hfit
        rw [← htake]
        show (cur.toList.take off ++ news.take dLen ++ cur.toList.drop (off + min m dLen)).take (n * size) = _
        rw [List.append_assoc, ← hL]
        exact splice_take _ _ _ _ (by omega) (by omega)

theorem wpList_copy (dT sT elem : TypeId) (hu : P.underlying dT = some (.slice elem)) (hsz : (P.info? elem).map (·.size) = some 1) (d s : Operand)
    (hop : o.op = .call { callee := .builtin .copy, args := #[d, s], argTypes := #[dT, sT] }) (hw : Region.wanted o (yielded ops a.tmps) = true)
    {base g n c off dLen dCap m cc B : Nat} {X : Option Addr} {xs news : List Value} (hd : a.eval d = .slice (some ⟨g, off, none⟩) dLen dCap) (hs : a.eval s = .slice X m cc)
    (hown : Own w base e size (some ⟨g, 0, none⟩) n c xs) (hr : Rd w B 1 X m news) (h1 : ∀ u ∈ news, u.oneCell' = true) (hfit : off + Nat.min m dLen ≤ n * size)
    (hK : ∀ w', Own w' base e size (some ⟨g, 0, none⟩) n c (splice xs off (news.take dLen)) → w.grownBy w' (some g) → wpList P ops Q rest (a.put o.dst (goInt (Nat.min m dLen))) w') :
    wpList P ops Q (o :: rest) a w := by
  obtain ⟨w', hrun, h2, h3⟩ := run_copy_mine (P := P) dT sT o.type elem hu hsz hown (dCap := dCap) (d := cc) hr h1 hfit
  refine wpList_ran hw (w' := w') (v := goInt (Nat.min m dLen)) ?_ (hK w' h2 h3)
  unfold execOp
  simp only [hop, resolve, invoke, builtin, Sem.run_bind, Sem.run_pure, Result.andThen_ok, List.map_toArray, List.map_cons, List.map_nil, hd, hs, hrun]

/-- 'x := s[i]', an element of several cells, loaded whole -/
theorem run_load_agg (ty : TypeId) {w : World} {b off : Nat} (cs : List Value) (hc : ∀ j u, cs[j]? = some u → w.cell? ⟨b, off + j, none⟩ = some u) (d : TypeDesc) (hu : P.underlying ty = some d)
    (hd : (match d with | .struct _ | .array _ _ => true | _ => false) = true) (hi : (P.info? ty).map (·.size) = some cs.length) : (loadVar ty ⟨b, off, none⟩).run P w = .ok (.agg cs.toArray) w := by
  have hl : (loadCells ⟨b, off, none⟩ cs.length).run P w = .ok cs.toArray w :=
    run_loadCells_list (P := P) w ⟨b, off, none⟩ cs (fun j v hv => by
      have hadd : (⟨b, off, none⟩ : Addr).add j = ⟨b, off + j, none⟩ := by unfold Addr.add; split <;> simp_all
      rw [hadd]; exact hc j v hv)
  cases hq : P.info? ty with
  | none => simp [hq] at hi
  | some i =>
    have hs : i.size = cs.length := by simpa [hq] using hi
    have hagg : (isAgg ty).run P w = .ok true w := by
      unfold isAgg
      rw [Sem.run_bind, run_underlying hu w]
      cases d <;> simp_all
    simp [loadVar, Sem.run_bind, hagg, sizeOf, typeInfo, hq, hs, hl]
theorem wpList_load_agg (ty : TypeId) (x : Operand) (hop : o.op = .load ty x) (hw : Region.wanted o (yielded ops a.tmps) = true) {b off : Nat} (hx : a.eval x = .pointer (some ⟨b, off, none⟩)) (cs : List Value)
    (hc : ∀ j u, cs[j]? = some u → w.cell? ⟨b, off + j, none⟩ = some u) (d : TypeDesc) (hu : P.underlying ty = some d)
    (hd : (match d with | .struct _ | .array _ _ => true | _ => false) = true) (hi : (P.info? ty).map (·.size) = some cs.length)
    (hK : wpList P ops Q rest (a.put o.dst (.agg cs.toArray)) w) : wpList P ops Q (o :: rest) a w := by
  refine wpList_ran hw (w' := w) (v := .agg cs.toArray) ?_ hK
  unfold execOp
  simp only [hop, hx, Instr.loadAt, Instr.sureAddr, Sem.run_bind, Sem.run_pure, Result.andThen_ok, run_load_agg ty cs hc d hu hd hi]
/-- a new variable -/
theorem wpList_alloc (e : TypeId) (hop : o.op = .alloc e) (hw : Region.wanted o (yielded ops a.tmps) = true) (base : Nat) (i : TypeInfo) (hi : P.info? e = some i) (hz : i.zero = some z) (hsize : z.cells.size = size) (hbase : base ≤ w.heap.size)
    (hK : ∀ g w', Own w' base e size (some ⟨g, 0, none⟩) 1 1 z.cells.toList → Nw w w' → w.heap.size ≤ g → wpList P ops Q rest (a.put o.dst (.pointer (some ⟨g, 0, none⟩))) w') : wpList P ops Q (o :: rest) a w := by
  refine wpList_ran hw (w' := w.alloc (.cells z.cells e)) (v := .pointer (some ⟨w.heap.size, 0, none⟩)) ?_ (hK _ _ ?_ (World.grownBy_alloc w _ none) (Nat.le_refl _))
  · unfold execOp
    simp [hop, Instr.alloc, zeroValue, typeInfo, hi, hz, newVar, newRow, Sem.run_bind]
  · have := World.ownsRow_lit (e := e) (size := size) w z.cells 1 hbase (by unfold maxLen; omega) (by rw [hsize, Nat.one_mul])
    exact this
theorem wpList_ran_skip (hw : Region.wanted o (yielded ops a.tmps) = true) {w' : World} (h : (execOp a.eval o).run P w = .ok .skip w')
    (hK : wpList P ops Q rest (a.put o.dst undef) w') : wpList P ops Q (o :: rest) a w := by
  unfold wpList
  rw [if_pos hw]
  left
  unfold Oper.wp
  rw [h]
  exact hK
theorem run_store_own (ty : TypeId) {w : World} {base g n c off : Nat} {xs cs : List Value} {v : Value} (hv : v.cells = cs.toArray) (hi : (P.info? ty).map (·.size) = some cs.length) (h1 : ∀ u ∈ cs, u.oneCell' = true)
    (hown : Own w base e size (some ⟨g, 0, none⟩) n c xs) (hfit : off + cs.length ≤ n * size) :
    ∃ w', (storeVar ty ⟨g, off, none⟩ v).run P w = .ok () w' ∧ Own w' base e size (some ⟨g, 0, none⟩) n c (splice xs off cs) ∧ w.grownBy w' (some g) := by
  rcases hown.2 with ⟨h', _⟩ | ⟨g', cap, cur, hv', hb, hg, hnc, hcm, hcs, htake⟩
  · simp at h'
  · simp only [Value.slice.injEq, Option.some.injEq, Addr.mk.injEq, and_true, true_and] at hv'
    obtain ⟨rfl, rfl⟩ := hv'
    have hnn : n * size ≤ cur.size := by rw [hcs]; exact Nat.mul_le_mul_right _ hnc
    have hst := run_storeCells_at P g off e cs 0 cur w hg (by omega) h1
    rw [Nat.add_zero] at hst
    have hcu : cur.toList.length = cur.size := Array.length_toList
    have hxl : xs.length = n * size := hown.1
    obtain ⟨i, hq, his⟩ := Option.map_eq_some_iff.1 hi
    refine ⟨w.setRow g (cur.toList.take off ++ cs ++ cur.toList.drop (off + cs.length)).toArray, ?_, ?_, ⟨rfl, rfl, rfl, by simp [World.setRow], fun k _ hk => setRow_other w g k _ (fun e => hk (by rw [e]))⟩⟩
    rotate_left
    · refine ⟨by rw [length_splice _ _ _ (by omega)]; exact hxl, .inr ⟨g, c, _, rfl, hb, setRow_heap w g cur (cur.toList.take off ++ cs ++ cur.toList.drop (off + cs.length)).toArray e _ hg, hnc, hcm, ?_, ?_⟩⟩
      · rw [List.append_assoc, ← hcs, List.size_toArray, ← hcu]
        exact length_splice _ _ _ (by omega)
      · rw [← htake]
        show (cur.toList.take off ++ cs ++ cur.toList.drop (off + cs.length)).take (n * size) = _
        rw [List.append_assoc]
        exact splice_take _ _ _ _ (by omega) (by omega)
    · unfold storeVar
      simp [Sem.run_bind, sizeOf, typeInfo, hq, his, hv]
      rw [hst, List.append_assoc]
/-- a store of a whole element into the call's own row -/
theorem wpList_store_own (ty : TypeId) (p x : Operand) (hop : o.op = .store ty p x) (hw : Region.wanted o (yielded ops a.tmps) = true) {base g n c off : Nat} {xs cs : List Value}
    (hp : a.eval p = .pointer (some ⟨g, off, none⟩)) {v : Value} (hx : a.eval x = v) (hv : v.cells = cs.toArray) (hi : (P.info? ty).map (·.size) = some cs.length) (h1 : ∀ u ∈ cs, u.oneCell' = true)
    (hown : Own w base e size (some ⟨g, 0, none⟩) n c xs) (hfit : off + cs.length ≤ n * size)
    (hK : ∀ w', Own w' base e size (some ⟨g, 0, none⟩) n c (splice xs off cs) → w.grownBy w' (some g) → wpList P ops Q rest (a.put o.dst undef) w') : wpList P ops Q (o :: rest) a w := by
  obtain ⟨w', hrun, h2, h3⟩ := run_store_own (P := P) ty hv hi h1 hown hfit
  refine wpList_ran_skip hw (w' := w') ?_ (hK w' h2 h3)
  unfold execOp
  simp [hop, hp, hx, Instr.storeAt, Instr.sureAddr, hrun]
end

section
variable {P : Program} {w : World}
/-- one element of an array of bytes -/
theorem run_part_byte {e : TypeId} {cs : Array Value} {i : Nat} {v : Value} (he : P.underlying e = some (.int .u8)) (hi : cs[i]? = some v) : (part e cs i).run P w = .ok v w := by
  unfold part
  have hagg : (isAgg e).run P w = .ok false w := by
    unfold isAgg
    rw [Sem.run_bind, run_underlying he w]
    rfl
  rw [Sem.run_bind, hagg]
  simp [hi]
theorem run_eq_loop (e : TypeId) (d : Nat) (xs ys : List UInt8) (he : P.underlying e = some (.int .u8)) (hl : xs.length = ys.length) :
    ∀ (n k : Nat), k + n = xs.length → xs.take k = ys.take k →
    (forIn (m := Sem) (List.range' k n) ((none, ()) : Option Bool × Unit) (fun i _ => do
        if !(← Op.equalIn (d + 1) e (← part e (xs.map bv).toArray (i * 1)) (← part e (ys.map bv).toArray (i * 1))) then pure (ForInStep.done (some false, ()))
        else pure (ForInStep.yield (none, ())))).run P w = .ok (if xs = ys then (none, ()) else (some false, ())) w := by
  intro n
  induction n with
  | zero =>
    intro k hk ht
    have : xs = ys := by rwa [List.take_of_length_le (by omega), List.take_of_length_le (by omega)] at ht
    simp [this, Sem.run_pure]
  | succ n ih =>
    intro k hk ht
    have hx : k < xs.length := by omega
    have hy : k < ys.length := by omega
    have h1 : ((xs.map bv).toArray)[k * 1]? = some (bv xs[k]) := by simp [hx]
    have h2 : ((ys.map bv).toArray)[k * 1]? = some (bv ys[k]) := by simp [hy]
    rw [List.range'_succ, List.forIn_cons]
    simp only [Sem.run_bind, run_part_byte he h1, run_part_byte he h2, Result.andThen_ok]
    simp only [bv, run_equalIn_int w d e _ _ _ _ he, Result.andThen_ok]
    by_cases h : xs[k] = ys[k]
    · have hb : (((xs[k].toNat : Int)) == (ys[k].toNat : Int)) = true := by rw [h]; simp
      simp only [hb]
      have := ih (k + 1) (by omega) (by rw [List.take_succ_eq_append_getElem hx, List.take_succ_eq_append_getElem hy, ht, h])
      simpa [Sem.run_pure] using this
    · have hb : (((xs[k].toNat : Int)) == (ys[k].toNat : Int)) = false := by
        rw [beq_eq_false_iff_ne]
        intro e
        exact h (UInt8.toNat_inj.1 (by omega))
      have hne : ¬ xs = ys := by rintro rfl; exact h rfl
      simp [hb, hne, Sem.run_pure]
theorem run_equal_arr (t e : TypeId) (N : Nat) (xs ys : List UInt8) (ht : P.underlying t = some (.array N e)) (he : P.underlying e = some (.int .u8)) (hs : (P.info? e).map (·.size) = some 1) (hx : xs.length = N) (hy : ys.length = N) :
    (Op.equal t (.agg (xs.map bv).toArray) (.agg (ys.map bv).toArray)).run P w = .ok (decide (xs = ys)) w := by
  obtain ⟨i, hq, his⟩ := Option.map_eq_some_iff.1 hs
  have hsz : (sizeOf e).run P w = .ok 1 w := by simp [sizeOf, typeInfo, hq, his]
  show (Op.equalIn 10000 t _ _).run P w = _
  unfold Op.equalIn
  have hl := run_eq_loop (w := w) e 9998 xs ys he (by omega) N 0 (by omega) rfl
  simp only [Sem.run_bind, run_underlying ht, hsz, Result.andThen_ok]
  rw [Std.Legacy.Range.forIn_eq_forIn_range', show (Std.Legacy.Range.size [:N]) = N from by simp [Std.Legacy.Range.size]]
  have hl' : (forIn (m := Sem) (List.range' 0 N 1) ((none, ()) : Option Bool × Unit) (fun i _ => do
        if !(← Op.equalIn 9999 e (← part e (xs.map bv).toArray (i * 1)) (← part e (ys.map bv).toArray (i * 1))) then pure (ForInStep.done (some false, ()))
        else pure (ForInStep.yield (none, ())))).run P w = .ok (if xs = ys then (none, ()) else (some false, ())) w := hl
  simp only [hl', Result.andThen_ok]
  by_cases h : xs = ys <;> simp [h, Sem.run_pure]

theorem run_neq_arr (t e : TypeId) (N : Nat) (xs ys : List UInt8) (ht : P.underlying t = some (.array N e)) (he : P.underlying e = some (.int .u8)) (hs : (P.info? e).map (·.size) = some 1) (hx : xs.length = N) (hy : ys.length = N) :
    (binOp .neq t (.agg (xs.map bv).toArray) (.agg (ys.map bv).toArray)).run P w = .ok (.bool (!decide (xs = ys))) w := by
  simp only [binOp]
  simp [run_equal_arr (w := w) t e N xs ys ht he hs hx hy]
theorem run_eql_arr (t e : TypeId) (N : Nat) (xs ys : List UInt8) (ht : P.underlying t = some (.array N e)) (he : P.underlying e = some (.int .u8)) (hs : (P.info? e).map (·.size) = some 1) (hx : xs.length = N) (hy : ys.length = N) :
    (binOp .eql t (.agg (xs.map bv).toArray) (.agg (ys.map bv).toArray)).run P w = .ok (.bool (decide (xs = ys))) w := by
  simp only [binOp]
  simp [run_equal_arr (w := w) t e N xs ys ht he hs hx hy]
end
section
variable {P : Program} {ops : Array Oper} {C : World → Prop} {Q : Act → Prop} {rest : List Oper} {o : Oper} {a : Act}
theorem run_eqGuard_agg {w : World} {t : TypeId} {op : BinOp} (x y : Operand) (cs ds : Array Value) (hg : P.eqGuardType P.depth t = false) : (eqGuard op t x y (.agg cs) (.agg ds)).run P w = .ok () w := by
  cases op <;> simp [eqGuard, hg]
/-- one operation of a quiet region, by its run -/
theorem wpQuiet_ran (hw : Region.wanted o (yielded ops a.tmps) = true) (v : Value) (h : ∀ w', C w' → (execOp a.eval o).run P w' = .ok (.value v) w') (hK : wpQuiet P ops C Q rest (a.put o.dst v)) :
    wpQuiet P ops C Q (o :: rest) a := by
  unfold wpQuiet
  rw [if_pos hw]
  refine ⟨v, fun w' hw' => ?_, hK⟩
  unfold Oper.quietAt
  rw [h w' hw']
  exact ⟨rfl, rfl⟩
theorem wpQuiet_load_agg {w : World} (ty : TypeId) (x : Operand) (hop : o.op = .load ty x) (hw : Region.wanted o (yielded ops a.tmps) = true) {b off : Nat} (hx : a.eval x = .pointer (some ⟨b, off, none⟩)) (cs : List Value)
    (hc : ∀ j u, cs[j]? = some u → w.cell? ⟨b, off + j, none⟩ = some u) (d : TypeDesc) (hu : P.underlying ty = some d)
    (hd : (match d with | .struct _ | .array _ _ => true | _ => false) = true) (hi : (P.info? ty).map (·.size) = some cs.length)
    (hK : wpQuiet P ops (fun w' => ∃ n, w' = w.drewN n) Q rest (a.put o.dst (.agg cs.toArray))) : wpQuiet P ops (fun w' => ∃ n, w' = w.drewN n) Q (o :: rest) a := by
  refine wpQuiet_ran hw (.agg cs.toArray) ?_ hK
  rintro w' ⟨n, rfl⟩
  unfold execOp
  simp only [hop, hx, Instr.loadAt, Instr.sureAddr, Sem.run_bind, Sem.run_pure, Result.andThen_ok, run_load_agg ty (w := w.drewN n) cs hc d hu hd hi]
theorem wpQuiet_neq_arr (t t2 e : TypeId) (N : Nat) (x y : Operand) (hop : o.op = .binOp .neq t x y t2) (hw : Region.wanted o (yielded ops a.tmps) = true) (xs ys : List UInt8) (ht : P.underlying t = some (.array N e)) (he : P.underlying e = some (.int .u8))
    (hs : (P.info? e).map (·.size) = some 1) (hg : P.eqGuardType P.depth t = false) (hx : a.eval x = .agg (xs.map bv).toArray) (hy : a.eval y = .agg (ys.map bv).toArray) (hxl : xs.length = N) (hyl : ys.length = N) (r : Bool) (hr : (!decide (xs = ys)) = r)
    (hK : wpQuiet P ops C Q rest (a.put o.dst (.bool r))) : wpQuiet P ops C Q (o :: rest) a := by
  refine wpQuiet_ran hw (.bool r) ?_ hK
  intro w' _
  unfold execOp
  simp only [hop, hx, hy, Sem.run_bind, run_eqGuard_agg _ _ _ _ hg, Result.andThen_ok, run_neq_arr (w := w') t e N xs ys ht he hs hxl hyl, hr, Sem.run_pure]
end

section
variable {P : Program} {t e : TypeId} {z : Value} {size bytes : Nat}
variable {ops : Array Oper} {rest : List Oper} {o : Oper} {a : Act} {Q : Exit → Act → World → Prop} {w : World}
/-- 'T{}' of an array or a struct: its zero -/
theorem wpList_build0 (ty : TypeId) (hop : o.op = .build ty #[]) (hw : Region.wanted o (yielded ops a.tmps) = true) (i : TypeInfo) (cs : Array Value) (hi : P.info? ty = some i) (hz : i.zero = some (.agg cs)) (N : Nat) (e : TypeId) (hu : P.underlying ty = some (.array N e))
    (hs : ((P.info? e).map (·.size)).isSome = true) (hK : wpList P ops Q rest (a.put o.dst (.agg cs)) w) : wpList P ops Q (o :: rest) a w := by
  refine wpList_ran hw (w' := w) (v := .agg cs) ?_ hK
  obtain ⟨j, hj⟩ := Option.isSome_iff_exists.1 hs
  obtain ⟨ie, hie, hsz⟩ := Option.map_eq_some_iff.1 hj
  have hzv : (zeroValue ty).run P w = .ok (.agg cs) w := by simp [zeroValue, typeInfo, hi, hz]
  have hso : (sizeOf e).run P w = .ok j w := by simp [sizeOf, typeInfo, hie, hsz]
  unfold execOp
  simp [hop, Instr.build, Sem.run_bind, hzv, run_underlying hu, hso, Instr.fill, Value.cells]
theorem fill_fold : ∀ (l : List Value) (k : Nat) (cs : Array Value), k + l.length ≤ cs.size → ((l.zipIdx k).foldl (fun cs (x : Value × Nat) => cs.setIfInBounds x.2 x.1) cs).toList = splice cs.toList k l
  | [], k, cs, _ => by simp [splice]
  | x :: l, k, cs, h => by
    simp only [List.length_cons] at h
    rw [List.zipIdx_cons, List.foldl_cons, fill_fold l (k + 1) _ (by simp; omega), Array.toList_setIfInBounds]
    unfold splice
    have hk : k < cs.toList.length := by simp; omega
    rw [List.take_set, List.take_succ_eq_append_getElem hk, List.drop_set, if_pos (by omega), List.set_append, if_neg (by simp; omega), List.length_take, Nat.min_eq_left (by omega), Nat.sub_self, List.set_cons_zero, List.append_assoc, List.length_cons, show k + (l.length + 1) = k + 1 + l.length by omega]
    rfl
theorem splice_all {α : Type} (L cs : List α) (h : cs.length = L.length) : splice L 0 cs = cs := by
  unfold splice
  rw [List.take_zero, List.nil_append, List.drop_eq_nil_of_le (by omega), List.append_nil]
theorem run_buildSlice1 (T : El P t e z size bytes) (v : Value) (hv : v.cells.size = size) (hsm : size ≤ 16777216) : (Instr.buildSlice t 1 #[(0, v)]).run P w = .ok (.slice (some ⟨w.heap.size, 0, none⟩) 1 1) (w.alloc (.cells v.cells e)) := by
  obtain ⟨i, hi, hz, hsize, _⟩ := T.info
  have hso : (sizeOf e).run P w = .ok size w := by simp [sizeOf, typeInfo, hi, hsize]
  have hzv : (zeroValue e).run P w = .ok z w := by simp [zeroValue, typeInfo, hi, hz]
  have hp := T.pos
  have hf : Instr.fill (fun i => some (i * size, size)) ((Array.range (1 * size)).map (z.cells[· % z.cells.size]!)) [(0, v)] = some v.cells := by
    simp only [Instr.fill, hv]
    rw [if_neg (by simp)]
    simp only [Option.some.injEq, Nat.zero_mul, Nat.zero_add]
    apply Array.toList_inj.1
    have h := fill_fold v.cells.toList 0 ((Array.range (1 * size)).map (z.cells[· % z.cells.size]!)) (by simp [hv])
    rw [splice_all _ _ (by simp [hv])] at h
    rw [← Array.foldl_toList, Array.toList_zipIdx]
    exact h
  have h1 : ¬ (1 * size > 2 ^ 24) := by omega
  have h2 : ¬ (1 * size = 0) := by omega
  unfold Instr.buildSlice
  simp only [Sem.run_bind, run_underlying T.und, Result.andThen_ok, hso, h1, h2, if_false, hzv, Sem.run_pure, hf]
  simp [newRow]
theorem wpList_buildSlice1 (T : El P t e z size bytes) (x : Operand) (hop : o.op = .buildSlice t 1 #[(0, x)]) (hw : Region.wanted o (yielded ops a.tmps) = true) {v : Value} (hx : a.eval x = v) (hv : v.cells.size = size) (hsm : size ≤ 16777216)
    (hK : wpList P ops Q rest (a.put o.dst (.slice (some ⟨w.heap.size, 0, none⟩) 1 1)) (w.alloc (.cells v.cells e))) : wpList P ops Q (o :: rest) a w := by
  refine wpList_ran hw ?_ hK
  unfold execOp
  simp [hop, hx, run_buildSlice1 T v hv hsm]
theorem rd_litN {w0 : World} (cs : List Value) (e : TypeId) (size : Nat) (h : cs.length = size) : Rd (w0.alloc (.cells cs.toArray e)) (w0.heap.size + 1) size (some ⟨w0.heap.size, 0, none⟩) 1 cs := by
  refine ⟨by omega, fun _ => ⟨_, _, rfl, by omega, fun j v hv => ?_⟩⟩
  have hc := cell_of_row (w0.alloc (.cells cs.toArray e)) w0.heap.size j cs.toArray e (0, 0) (heap_alloc_new w0 _)
  rw [Nat.zero_add]
  exact hc.trans (by simpa using hv)
/-- 'append(s, u)', an element of several cells -/
theorem wpList_appN_own {w0 : World} {cs : List Value} (T : El P t e z size bytes) (s x : Operand) (hop : o.op = .call { callee := .builtin .append, args := #[s, x], argTypes := #[t, t] }) (hw : Region.wanted o (yielded ops a.tmps) = true)
    {base : Nat} {A : Option Addr} {n c : Nat} {xs : List Value} (hs : a.eval s = .slice A n c) (hx : a.eval x = .slice (some ⟨w0.heap.size, 0, none⟩) 1 1)
    (hown : Own w0 base e size A n c xs) (hcs : cs.length = size) (h1 : ∀ u ∈ cs, u.oneCell' = true) (hsm : (n + 1) * bytes ≤ 140737488355328 ∧ n + 1 ≤ maxLen) (hbase : base ≤ w0.heap.size)
    (hK : ∀ A' c' w', Own w' base e size A' (n + 1) c' (xs ++ cs) → w0.grownBy w' (Value.slice A n c).ownBlock →
      ((Value.slice A' (n + 1) c').ownBlock = (Value.slice A n c).ownBlock ∨ ∃ g, w0.heap.size ≤ g ∧ (Value.slice A' (n + 1) c').ownBlock = some g) → wpList P ops Q rest (a.put o.dst (.slice A' (n + 1) c')) w') :
    wpList P ops Q (o :: rest) a (w0.alloc (.cells cs.toArray e)) := by
  refine wpList_app_own T s x hop hw hs hx (World.ownsRow.alloc hown _) (rd_litN cs e size hcs) h1 hsm (by simp; omega) fun A' c' w' h2 h3 h4 => hK A' c' w' h2 ?_ ?_
  · exact gb_trans (World.grownBy_alloc w0 _ _) h3
  · rcases h4 with h4 | h4
    · exact .inl h4
    · exact .inr ⟨_, by simp, h4⟩
end

/-! ### regions that draw their order, in an order of my own -/
section
variable {P : Program} {ops : Array Oper} {md : Region.Mode} {Q : Exit → Act → World → Prop} {S S' : World → Prop}
theorem wpAnyH_mono (h : ∀ w, S' w → S w) : ∀ (fuel : Nat) (listed : Array Bool) (a : Act) (w : World), wpAnyH P md ops Q S' fuel listed a w → wpAnyH P md ops Q S fuel listed a w
  | 0, _, _, _, hh => hh
  | fuel + 1, _, _, _, hh => ⟨hh.1, fun i hi => wpOp_mono (fun a' w' h' => ⟨h _ h'.1, wpAnyH_mono h fuel _ a' w' h'.2⟩) (hh.2 i hi)⟩
def wpYield (P : Program) (ops : Array Oper) (S : World → Prop) (Q : Act → Prop) : List Oper → Act → Prop
  | [], a => Q a
  | o :: rest, a => ∃ v, YieldsIf P ops S o v a ∧ wpYield P ops S Q rest (a.put o.dst v)
theorem wpYield_nil {R : Act → Prop} {a : Act} (h : R a) : wpYield P ops S R [] a := h
theorem wpYield_val {R : Act → Prop} {a : Act} {o : Oper} {rest : List Oper} {v : Value} (hw : Region.wanted o (yielded ops a.tmps) = true) (h : ∀ w', S w' → (execOp a.eval o).run P w' = .ok (.value v) w')
    (hK : wpYield P ops S R rest (a.put o.dst v)) : wpYield P ops S R (o :: rest) a := ⟨v, .inl ⟨hw, h⟩, hK⟩
theorem wpYield_skip {R : Act → Prop} {a : Act} {o : Oper} {rest : List Oper} (hw : Region.wanted o (yielded ops a.tmps) = false) (hK : wpYield P ops S R rest (a.put o.dst undef)) : wpYield P ops S R (o :: rest) a := ⟨undef, .inr ⟨hw, rfl⟩, hK⟩
theorem wpYield_step {R : Act → Prop} {a : Act} {o : Oper} {rest : List Oper} (hw : Region.wanted o (yielded ops a.tmps) = true)
    (h : ∀ K : Act → Prop, (∀ a, wpYield P ops S R rest a → K a) → ∃ v, (∀ w', S w' → (execOp a.eval o).run P w' = .ok (.value v) w') ∧ K (a.put o.dst v)) : wpYield P ops S R (o :: rest) a := by
  obtain ⟨v, h1, h2⟩ := h _ (fun _ h => h)
  exact ⟨v, .inl ⟨hw, h1⟩, h2⟩
theorem wpYield_skipK {R : Act → Prop} {a : Act} {o : Oper} {rest : List Oper} (hw : Region.wanted o (yielded ops a.tmps) = false) (h : ∀ K : Act → Prop, (∀ a, wpYield P ops S R rest a → K a) → K (a.put o.dst undef)) : wpYield P ops S R (o :: rest) a :=
  ⟨undef, .inr ⟨hw, rfl⟩, h _ (fun _ h => h)⟩
def segOk (md : Region.Mode) (ops : Array Oper) : List Nat → Array Bool → Bool
  | [], _ => true
  | i :: l, listed => decide (i < ops.size) && Region.free md ops listed i && (Region.ready md ops listed).contains i && segOk md ops l (listed.setIfInBounds i true)
def segMark : List Nat → Array Bool → Array Bool
  | [], listed => listed
  | i :: l, listed => segMark l (listed.setIfInBounds i true)
theorem held_seg (hs : Region.noSelect ops = true) (hQ : ∀ c a d v w, Q (.panic c) (a.put d v) w → Q (.panic c) a w) {fuel : Nat} {w : World} (hS : S w) :
    ∀ (l : List Nat) (listed : Array Bool) (a : Act), segOk md ops l listed = true → wpYield P ops S (fun a' => wpAnyH P md ops Q S fuel (segMark l listed) a' w) (l.filterMap (ops[·]?)) a → wpAnyH P md ops Q S (l.length + fuel) listed a w
  | [], listed, a, _, h => by simpa [wpYield, segMark] using h
  | i :: l, listed, a, hk, h => by
    simp only [segOk, Bool.and_eq_true, decide_eq_true_eq] at hk
    obtain ⟨⟨⟨h1, h2⟩, h3⟩, h4⟩ := hk
    have hi : ops[i]? = some ops[i] := Array.getElem?_eq_getElem h1
    rw [List.filterMap_cons, hi] at h
    obtain ⟨v, hy, hK⟩ := h
    have ih := held_seg hs hQ hS l (listed.setIfInBounds i true) (a.put ops[i].dst v) h4 hK
    rw [List.length_cons, show l.length + 1 + fuel = (l.length + fuel) + 1 by omega]
    exact wpAnyH_take hi hs h2 h3 (fun c a w => hQ c a _ v w) hy hS ih
theorem held_seg' {fuel : Nat} {w : World} {l : List Nat} {n : Nat} {listed : Array Bool} {a : Act} {os : List Oper} (hn : n = l.length + fuel) (hs : Region.noSelect ops = true) (hk : segOk md ops l listed = true) (ho : l.filterMap (ops[·]?) = os)
    (hQ : ∀ c a d v w, Q (.panic c) (a.put d v) w → Q (.panic c) a w) (hS : S w) (h : wpYield P ops S (fun a' => wpAnyH P md ops Q S fuel (segMark l listed) a' w) os a) : wpAnyH P md ops Q S n listed a w := by
  subst hn; subst ho
  exact held_seg hs hQ hS l listed a hk h
theorem held_eff {fuel : Nat} {w : World} (i : Nat) {o : Oper} {listed : Array Bool} {a : Act} (hi : ops[i]? = some o) (hr : Region.ready md ops listed = [i]) (hw : Region.wanted o (yielded ops a.tmps) = true)
    (h : ∀ K : Act → World → Prop, (∀ a w, S w ∧ wpAnyH P md ops Q S fuel (listed.setIfInBounds i true) a w → K a w) → o.wp P a w K Q) : wpAnyH P md ops Q S (fuel + 1) listed a w := by
  refine wpAnyH_all hr (by simp) fun j hj => ?_
  rw [List.mem_singleton.1 hj]
  unfold wpOp
  simp only [hi, hw, if_true]
  exact .inl (h _ fun _ _ hh => hh)
theorem wpYield_bytes_str {R : Act → Prop} {a : Act} {o : Oper} {rest : List Oper} (src dst e : TypeId) (hs : P.underlying src = some (.slice e)) (he : P.underlying e = some (.int .u8)) (hd : P.underlying dst = some .string) (x : Operand)
    (hop : o.op = .convert src dst x) (hw : Region.wanted o (yielded ops a.tmps) = true) {B n c : Nat} {A : Option Addr} {bs : List UInt8} (hx : a.eval x = .slice A n c) (hr : ∀ w', S w' → Rd w' B 1 A n (bs.map bv))
    (hK : wpYield P ops S R rest (a.put o.dst (.string ⟨bs.toArray⟩))) : wpYield P ops S R (o :: rest) a := by
  refine wpYield_val hw (fun w' hw' => ?_) hK
  unfold execOp
  simp only [hop, hx, Sem.run_bind, run_conv_bytes src dst e hs he hd (hr w' hw'), Result.andThen_ok, Sem.run_pure]
end

section
variable {P : Program} {o : Oper} {a : Act} {K : Act → World → Prop} {Q : Exit → Act → World → Prop} {w w' : World}
/-- one operation, by its run -/
theorem wp_ran {v : Value} (h : (execOp a.eval o).run P w = .ok (.value v) w') (hK : K (a.put o.dst v) w') : o.wp P a w K Q := by
  unfold Oper.wp
  rw [h]
  exact hK
theorem wp_ran_skip (h : (execOp a.eval o).run P w = .ok .skip w') (hK : K (a.put o.dst undef) w') : o.wp P a w K Q := by
  unfold Oper.wp
  rw [h]
  exact hK
theorem run_exec_store (ty : TypeId) (p x : Operand) (hop : o.op = .store ty p x) {g off : Nat} {v : Value} (hp : a.eval p = .pointer (some ⟨g, off, none⟩)) (hx : a.eval x = v) (hrun : (storeVar ty ⟨g, off, none⟩ v).run P w = .ok () w') :
    (execOp a.eval o).run P w = .ok .skip w' := by
  unfold execOp
  simp [hop, hp, hx, Instr.storeAt, Instr.sureAddr, hrun]
theorem run_exec_load_agg (ty : TypeId) (x : Operand) (hop : o.op = .load ty x) {b off : Nat} (hx : a.eval x = .pointer (some ⟨b, off, none⟩)) (cs : List Value)
    (hc : ∀ j u, cs[j]? = some u → w.cell? ⟨b, off + j, none⟩ = some u) (d : TypeDesc) (hu : P.underlying ty = some d)
    (hd : (match d with | .struct _ | .array _ _ => true | _ => false) = true) (hi : (P.info? ty).map (·.size) = some cs.length) : (execOp a.eval o).run P w = .ok (.value (.agg cs.toArray)) w := by
  unfold execOp
  simp only [hop, hx, Instr.loadAt, Instr.sureAddr, Sem.run_bind, Sem.run_pure, Result.andThen_ok, run_load_agg ty cs hc d hu hd hi]
end
section
variable {P : Program} {ops : Array Oper} {S : World → Prop} {R : Act → Prop} {rest : List Oper} {o : Oper} {a : Act}
theorem wpYield_load_agg (ty : TypeId) (x : Operand) (hop : o.op = .load ty x) (hw : Region.wanted o (yielded ops a.tmps) = true) {b off : Nat} (hx : a.eval x = .pointer (some ⟨b, off, none⟩)) (cs : List Value)
    (hc : ∀ w', S w' → ∀ j u, cs[j]? = some u → w'.cell? ⟨b, off + j, none⟩ = some u) (d : TypeDesc) (hu : P.underlying ty = some d)
    (hd : (match d with | .struct _ | .array _ _ => true | _ => false) = true) (hi : (P.info? ty).map (·.size) = some cs.length)
    (hK : wpYield P ops S R rest (a.put o.dst (.agg cs.toArray))) : wpYield P ops S R (o :: rest) a :=
  wpYield_val hw (fun w' hw' => run_exec_load_agg ty x hop hx cs (hc w' hw') d hu hd hi) hK
theorem wpYield_eq_arr (neg : Bool) (t t2 e : TypeId) (N : Nat) (x y : Operand) (hop : o.op = .binOp (if neg then .neq else .eql) t x y t2) (hw : Region.wanted o (yielded ops a.tmps) = true) (xs ys : List UInt8) (ht : P.underlying t = some (.array N e)) (he : P.underlying e = some (.int .u8))
    (hs : (P.info? e).map (·.size) = some 1) (hg : P.eqGuardType P.depth t = false) (hx : a.eval x = .agg (xs.map bv).toArray) (hy : a.eval y = .agg (ys.map bv).toArray) (hxl : xs.length = N) (hyl : ys.length = N) (r : Bool) (hr : (neg ^^ decide (xs = ys)) = r)
    (hK : wpYield P ops S R rest (a.put o.dst (.bool r))) : wpYield P ops S R (o :: rest) a := by
  refine wpYield_val hw (v := .bool r) (fun w' _ => ?_) hK
  unfold execOp
  cases neg
  · simp only [hop, hx, hy, Sem.run_bind, run_eqGuard_agg _ _ _ _ hg, Result.andThen_ok, if_false, Bool.false_eq_true, run_eql_arr (w := w') t e N xs ys ht he hs hxl hyl, Sem.run_pure]
    rw [← hr]; simp
  · simp only [hop, hx, hy, Sem.run_bind, run_eqGuard_agg _ _ _ _ hg, Result.andThen_ok, if_true, run_neq_arr (w := w') t e N xs ys ht he hs hxl hyl, Sem.run_pure]
    rw [← hr]; simp
end

/-- '==' or '!=' of two arrays of bytes -/
theorem wpList_eq_arr {P : Program} {ops : Array Oper} {rest : List Oper} {o : Oper} {a : Act} {Q : Exit → Act → World → Prop} {w : World} (neg : Bool) (t t2 e : TypeId) (N : Nat) (x y : Operand) (hop : o.op = .binOp (if neg then .neq else .eql) t x y t2) (hw : Region.wanted o (yielded ops a.tmps) = true) (xs ys : List UInt8)
    (ht : P.underlying t = some (.array N e)) (he : P.underlying e = some (.int .u8)) (hs : (P.info? e).map (·.size) = some 1) (hg : P.eqGuardType P.depth t = false) (hx : a.eval x = .agg (xs.map bv).toArray) (hy : a.eval y = .agg (ys.map bv).toArray) (hxl : xs.length = N) (hyl : ys.length = N) (r : Bool) (hr : (neg ^^ decide (xs = ys)) = r)
    (hK : wpList P ops Q rest (a.put o.dst (.bool r)) w) : wpList P ops Q (o :: rest) a w := by
  refine wpList_ran hw (v := .bool r) (w' := w) ?_ hK
  unfold execOp
  cases neg
  · simp only [hop, hx, hy, Sem.run_bind, run_eqGuard_agg _ _ _ _ hg, Result.andThen_ok, if_false, Bool.false_eq_true, run_eql_arr (w := w) t e N xs ys ht he hs hxl hyl, Sem.run_pure]
    rw [← hr]; simp
  · simp only [hop, hx, hy, Sem.run_bind, run_eqGuard_agg _ _ _ _ hg, Result.andThen_ok, if_true, run_neq_arr (w := w) t e N xs ys ht he hs hxl hyl, Sem.run_pure]
    rw [← hr]; simp

/-! ### objects of the heap, and what has changed -/
/-- nothing but the blocks F, and what is new, has changed -/
structure Chg (w w' : World) (F : List Nat) : Prop where
  os : w'.os = w.os
  tape : w'.tape = w.tape
  output : w'.output = w.output
  size : w.heap.size ≤ w'.heap.size
  block : ∀ k, k < w.heap.size → k ∉ F → w'.heap[k]? = w.heap[k]?
section
variable {w w' w'' : World} {F F' : List Nat}
theorem Chg.refl (w : World) (F : List Nat) : Chg w w F := ⟨rfl, rfl, rfl, Nat.le_refl _, fun _ _ _ => rfl⟩
theorem Chg.trans (h : Chg w w' F) (k : Chg w' w'' F') (hs : ∀ x ∈ F', x ∈ F ∨ w.heap.size ≤ x) : Chg w w'' F :=
  ⟨k.os.trans h.os, k.tape.trans h.tape, k.output.trans h.output, Nat.le_trans h.size k.size, fun i hi hn => (k.block i (Nat.lt_of_lt_of_le hi h.size) (fun hm => by
    rcases hs i hm with h1 | h1
    · exact hn h1
    · omega)).trans (h.block i hi hn)⟩
theorem Chg.of_gb {row : Option Nat} (h : w.grownBy w' row) (hr : ∀ g, row = some g → g ∈ F) : Chg w w' F :=
  ⟨h.os, h.tape, h.output, h.size, fun i hi hn => h.block i hi (fun e => hn (hr i e.symm))⟩
theorem Chg.of_nw (h : Nw w w') : Chg w w' F := Chg.of_gb h (by intro g e; cases e)
theorem Chg.set (w : World) {p : Addr} (hp : p.block ∈ F) (u : Value) : Chg w (w.setCell p u) F :=
  ⟨rfl, rfl, rfl, by simp [World.setCell], fun i _ hn => Below.heap_setCell w p u i (by rintro rfl; exact hn hp)⟩
theorem Chg.nw (h : Chg w w' F) (h0 : ∀ x ∈ F, w.heap.size ≤ x) : Nw w w' := ⟨h.os, h.tape, h.output, h.size, fun i hi _ => h.block i hi (fun hm => by have := h0 i hm; omega)⟩
theorem Chg.drewN (h : Chg w w' F) (n : Nat) : Chg w (w'.drewN n) F := ⟨h.os, h.tape, h.output, h.size, h.block⟩
theorem Chg.drew (h : Chg w w' F) : Chg w w'.drew F := ⟨h.os, h.tape, h.output, h.size, h.block⟩
end
/-- block g is just these cells, of type t -/
def Obj1 (w : World) (g : Nat) (t : TypeId) (cs : Array Value) : Prop := w.heap[g]? = some (.cells cs t (0, 0))
section
variable {w w' : World} {g : Nat} {t : TypeId} {cs : Array Value} {F : List Nat}
theorem Obj1.lt (h : Obj1 w g t cs) : g < w.heap.size := (Array.getElem?_eq_some_iff.1 h).1
theorem Obj1.cell (h : Obj1 w g t cs) (i : Nat) : w.cell? ⟨g, i, none⟩ = cs[i]? := cell_of_row w g i cs t (0, 0) h
theorem Obj1.frozen (h : Obj1 w g t cs) (i : Nat) : w.frozen? ⟨g, i, none⟩ = false := frozen_of_row w g i cs t h
theorem Obj1.new (w : World) (t : TypeId) (cs : Array Value) : Obj1 (w.alloc (.cells cs t)) w.heap.size t cs := heap_alloc_new w _
theorem Obj1.set (h : Obj1 w g t cs) (i : Nat) (u : Value) : Obj1 (w.setCell ⟨g, i, none⟩ u) g t (cs.setIfInBounds i u) := heap_setCell_same w g i cs t u h
theorem Obj1.eq (h : Obj1 w g t cs) (e : w'.heap[g]? = w.heap[g]?) : Obj1 w' g t cs := e.trans h
theorem Obj1.chg (h : Obj1 w g t cs) (c : Chg w w' F) (hg : g ∉ F) : Obj1 w' g t cs := h.eq (c.block g h.lt hg)
theorem Obj1.nw (h : Obj1 w g t cs) (c : Nw w w') : Obj1 w' g t cs := h.eq (c.block g h.lt (by simp))
theorem Obj1.ne {g' : Nat} {t' : TypeId} {cs' : Array Value} (h : Obj1 w g t cs) (h' : Obj1 w g' t' cs') (hne : t ≠ t') : g ≠ g' := by
  rintro rfl
  unfold Obj1 at h h'
  rw [h] at h'
  injection h' with h'
  injection h' with _ ht
  exact hne ht
/-- an own row's block -/
theorem Own.obj {base size n c r : Nat} {e : TypeId} {xs : List Value} (h : Own w base e size (some ⟨r, 0, none⟩) n c xs) : ∃ cur, Obj1 w r e cur := by
  rcases h.2 with ⟨h2, _⟩ | ⟨g, cap, cur, hv, _, hg, _⟩
  · cases h2
  · injection hv with h1 _ _
    injection h1 with h1
    injection h1 with h1
    subst h1
    exact ⟨cur, hg⟩
theorem Own.rowObj {base size n c : Nat} {A : Option Addr} {e : TypeId} {xs : List Value} (h : Own w base e size A n c xs) : ∀ r, (Value.slice A n c).ownBlock = some r → ∃ cur, Obj1 w r e cur := by
  intro r hr
  rcases h.2 with ⟨h2, _⟩ | ⟨g, cap, cur, hv, _, hg, _⟩
  · injection h2 with h2; subst h2; simp [Value.ownBlock] at hr
  · injection hv with hv; subst hv
    simp [Value.ownBlock] at hr
    subst hr
    exact ⟨cur, hg⟩
theorem Own.eqb {base size n c r : Nat} {e : TypeId} {xs : List Value} (h : Own w base e size (some ⟨r, 0, none⟩) n c xs) (he : w'.heap[r]? = w.heap[r]?) : Own w' base e size (some ⟨r, 0, none⟩) n c xs := by
  refine ⟨h.1, ?_⟩
  rcases h.2 with h2 | ⟨g, cap, cur, hv, hb, hg, rest⟩
  · exact .inl h2
  · refine .inr ⟨g, cap, cur, hv, hb, ?_, rest⟩
    injection hv with h1 _ _
    injection h1 with h1
    injection h1 with h1
    subst h1
    exact he.trans hg
end
end Go.BW


/- Results that lie in a cell; under the premises that each lemma states. -/
namespace Go.BW
open Go.RowKit
theorem res_cell_tmp {P : Program} {fn : Func} {p u : Tmp} {ty : TypeId} (h : fn.results = #[.cell p ty, .tmp u]) (tmps : Array Value) (w : World) (g : Nat) (t : TypeId) (cs : Array Value) (d : TypeDesc)
    (hp : tmps.getD p undef = .pointer (some ⟨g, 0, none⟩)) (hg : Obj1 w g t cs) (hu : P.underlying ty = some d) (hd : (match d with | .struct _ | .array _ _ => true | _ => false) = true) (hi : (P.info? ty).map (·.size) = some cs.size) :
    (results fn tmps).run P w = .ok (.tuple #[.agg cs, tmps.getD u undef]) w := by
  rw [results_cell_tmp h, hp]
  simp [asAddr, run_loadVar_row w g t ty cs (0, 0) d hg hu hd hi]
theorem Own.row1' {w : World} {base size g : Nat} {e : TypeId} {xs : List Value} (h : Own w base e size (some ⟨g, 0, none⟩) 1 1 xs) : Obj1 w g e xs.toArray := by
  rcases h.2 with ⟨h', _⟩ | ⟨g', cap, cur, hv, hb, hg, hnc, hcm, hcs, htake⟩
  · simp at h'
  · simp only [Value.slice.injEq, Option.some.injEq, Addr.mk.injEq, and_true, true_and] at hv
    obtain ⟨rfl, rfl⟩ := hv
    have : cur.toList = xs := by rw [← htake, List.take_of_length_le (by rw [Array.length_toList, hcs]; omega)]
    unfold Obj1
    rw [← this]
    exact hg
end Go.BW


/- Rows of elements of several cells, each the cells of a value; under the premises that each lemma states. -/
namespace Go.BW
open Go.RowKit
section
variable {α : Type} {enc : α → List Value} {size : Nat}
/-- elements laid end to end -/
def fl (enc : α → List Value) (os : List α) : List Value := (os.map enc).flatten
theorem fl_nil : fl enc [] = [] := rfl
theorem fl_app (a b : List α) : fl enc (a ++ b) = fl enc a ++ fl enc b := by simp [fl]
theorem fl_one (a : α) : fl enc [a] = enc a := by simp [fl]
theorem fl_cons (a : α) (l : List α) : fl enc (a :: l) = enc a ++ fl enc l := by simp [fl]
theorem fl_len (hl : ∀ x, (enc x).length = size) : ∀ os : List α, (fl enc os).length = os.length * size
  | [] => by simp [fl]
  | a :: os => by rw [fl_cons, List.length_append, hl, fl_len hl os, List.length_cons, Nat.succ_mul]; omega
theorem fl_take (hl : ∀ x, (enc x).length = size) : ∀ (os : List α) (k : Nat), (fl enc os).take (k * size) = fl enc (os.take k)
  | [], k => by simp [fl]
  | a :: os, 0 => by simp [fl]
  | a :: os, k + 1 => by
    rw [List.take_succ_cons, fl_cons, fl_cons, Nat.succ_mul, Nat.add_comm, List.take_append, hl, List.take_of_length_le (by rw [hl]; omega), Nat.add_sub_cancel_left, fl_take hl os k]
theorem fl_drop (hl : ∀ x, (enc x).length = size) : ∀ (os : List α) (k : Nat), (fl enc os).drop (k * size) = fl enc (os.drop k)
  | [], k => by simp [fl]
  | a :: os, 0 => by simp [fl]
  | a :: os, k + 1 => by
    rw [List.drop_succ_cons, fl_cons, Nat.succ_mul, Nat.add_comm, List.drop_append, hl, List.drop_of_length_le (by rw [hl]; omega), Nat.add_sub_cancel_left, List.nil_append, fl_drop hl os k]
theorem fl_at (hl : ∀ x, (enc x).length = size) {os : List α} {k : Nat} {x : α} (hk : os[k]? = some x) : ((fl enc os).drop (k * size)).take size = enc x := by
  obtain ⟨h, rfl⟩ := List.getElem?_eq_some_iff.1 hk
  rw [fl_drop hl, List.drop_eq_getElem_cons h, fl_cons, List.take_append, hl, Nat.sub_self, List.take_zero, List.append_nil, List.take_of_length_le (by rw [hl]; exact Nat.le_refl _)]
theorem fl_set (hl : ∀ x, (enc x).length = size) {os : List α} {k : Nat} (hk : k < os.length) (y : α) : splice (fl enc os) (k * size) (enc y) = fl enc (os.set k y) := by
  unfold splice
  rw [fl_take hl, hl, show k * size + size = (k + 1) * size by rw [Nat.succ_mul], fl_drop hl, List.set_eq_take_append_cons_drop, if_pos hk, fl_app, fl_cons]
theorem fl_inj (hl : ∀ x, (enc x).length = size) (hs : 0 < size) (hi : ∀ x y, enc x = enc y → x = y) : ∀ a b : List α, fl enc a = fl enc b → a = b
  | [], [], _ => rfl
  | [], b :: bs, h => by
    have := congrArg List.length h
    rw [fl_len hl, fl_len hl, List.length_nil, Nat.zero_mul] at this
    have h2 : 0 < (b :: bs).length * size := Nat.mul_pos (Nat.succ_pos _) hs
    omega
  | a :: as, [], h => by
    have := congrArg List.length h
    rw [fl_len hl, fl_len hl, List.length_nil, Nat.zero_mul] at this
    have h2 : 0 < (a :: as).length * size := Nat.mul_pos (Nat.succ_pos _) hs
    omega
  | a :: as, b :: bs, h => by
    rw [fl_cons, fl_cons] at h
    obtain ⟨h1, h2⟩ := List.append_inj h (by rw [hl, hl])
    rw [hi _ _ h1, fl_inj hl hs hi as bs h2]
theorem Rd.atL {w : World} {B n k : Nat} {A : Option Addr} {os : List α} (h : Rd w B size A n (fl enc os)) (hl : ∀ x, (enc x).length = size) (hs : 0 < size) (hk : k < n) :
    os.length = n ∧ ∃ b off x, A = some ⟨b, off, none⟩ ∧ b < B ∧ os[k]? = some x ∧ ∀ j u, (enc x)[j]? = some u → w.cell? ⟨b, off + k * size + j, none⟩ = some u := by
  have hn : os.length = n := by
    have := h.1
    rw [fl_len hl] at this
    exact Nat.eq_of_mul_eq_mul_right hs this
  obtain ⟨b, off, e, hb, _, hc⟩ := h.atN hk hs
  have hx : os[k]? = some os[k] := List.getElem?_eq_getElem (by omega)
  rw [fl_at hl hx] at hc
  exact ⟨hn, b, off, os[k], e, hb, hx, hc⟩
theorem Own.atL {w : World} {base r n c k : Nat} {e : TypeId} {os : List α} (h : Own w base e size (some ⟨r, 0, none⟩) n c (fl enc os)) (hl : ∀ x, (enc x).length = size) (hs : 0 < size) {x : α} (hx : os[k]? = some x) :
    ∀ j u, (enc x)[j]? = some u → w.cell? ⟨r, k * size + j, none⟩ = some u := by
  have hn : os.length = n := by
    have := h.len
    rw [fl_len hl] at this
    exact Nat.eq_of_mul_eq_mul_right hs this
  have hk := (List.getElem?_eq_some_iff.1 hx).1
  obtain ⟨_, b, off, x', e, _, hx', hc⟩ := h.rd.atL hl hs (k := k) (by omega)
  rw [hx] at hx'
  injection hx' with hx'; subst hx'
  injection e with e; injection e with e1 e2; subst e1; subst e2
  intro j u hu
  have := hc j u hu
  rwa [Nat.zero_add] at this
theorem Own.lenL {w : World} {base n c : Nat} {e : TypeId} {A : Option Addr} {os : List α} (h : Own w base e size A n c (fl enc os)) (hl : ∀ x, (enc x).length = size) (hs : 0 < size) : os.length = n := by
  have := h.len
  rw [fl_len hl] at this
  exact Nat.eq_of_mul_eq_mul_right hs this
theorem Rd.lenL {w : World} {B n : Nat} {A : Option Addr} {os : List α} (h : Rd w B size A n (fl enc os)) (hl : ∀ x, (enc x).length = size) (hs : 0 < size) : os.length = n := by
  have := h.1
  rw [fl_len hl] at this
  exact Nat.eq_of_mul_eq_mul_right hs this
theorem Rd.takeL {w : World} {B n k : Nat} {A : Option Addr} {os : List α} (h : Rd w B size A n (fl enc os)) (hl : ∀ x, (enc x).length = size) (hk : k ≤ n) : Rd w B size A k (fl enc (os.take k)) := by
  have := h.take hk
  rwa [fl_take hl] at this
/-- one cell of one element -/
theorem fl_set1 (hl : ∀ x, (enc x).length = size) {u : Value} {x y : α} {j : Nat} (hj : j < size) (he : enc y = (enc x).set j u) : ∀ (os : List α) (k : Nat), os[k]? = some x → (fl enc os).set (k * size + j) u = fl enc (os.set k y)
  | [], k, h => by simp at h
  | a :: os, 0, h => by
    simp at h
    subst h
    rw [List.set_cons_zero, fl_cons, fl_cons, he, Nat.zero_mul, Nat.zero_add, List.set_append, if_pos (by rw [hl]; exact hj)]
  | a :: os, k + 1, h => by
    rw [List.set_cons_succ, fl_cons, fl_cons, List.set_append, if_neg (by rw [hl, Nat.succ_mul]; omega), hl, show (k + 1) * size + j - size = k * size + j by rw [Nat.succ_mul]; omega, fl_set1 hl hj he os k (by simpa using h)]
/-- the first cells of one element -/
theorem fl_splice (hl : ∀ x, (enc x).length = size) {x y : α} {cs : List Value} (hc : cs.length ≤ size) (he : enc y = splice (enc x) 0 cs) : ∀ (os : List α) (k : Nat), os[k]? = some x → splice (fl enc os) (k * size) cs = fl enc (os.set k y)
  | [], k, h => by simp at h
  | a :: os, 0, h => by
    simp at h
    subst h
    rw [List.set_cons_zero, fl_cons, fl_cons, he]
    unfold splice
    rw [Nat.zero_mul, List.take_zero, List.nil_append, List.take_zero, List.nil_append, Nat.zero_add, List.drop_append, hl, show cs.length - size = 0 by omega, List.drop_zero, List.append_assoc]
  | a :: os, k + 1, h => by
    rw [List.set_cons_succ, fl_cons, fl_cons, ← fl_splice hl hc he os k (by simpa using h)]
    unfold splice
    have e : (k + 1) * size = size + k * size := by rw [Nat.succ_mul]; omega
    rw [e, List.take_append, hl, List.take_of_length_le (by rw [hl]; omega), Nat.add_sub_cancel_left]
    simp only [List.append_assoc]
    rw [Nat.add_assoc, List.drop_append, hl, List.drop_of_length_le (by rw [hl]; omega), List.nil_append, Nat.add_sub_cancel_left]
end
end Go.BW


/- Regions that draw their order, whose loads come ahead of what stores: a condition on the world that is asked only until the operations D have come up. -/
namespace Go.BW
open Go.RowKit
section
variable {P : Program} {ops : Array Oper} {md : Region.Mode} {Q : Exit → Act → World → Prop} {D : List Nat} {S : World → Prop}
/-- S, while one of D is still to come -/
def Until (D : List Nat) (S : World → Prop) (listed : Array Bool) (w : World) : Prop := ∀ d ∈ D, listed.getD d true = false → S w
/-- whatever comes up, in whatever order; S behind each, while one of D is still to come -/
def wpU (P : Program) (md : Region.Mode) (ops : Array Oper) (Q : Exit → Act → World → Prop) (D : List Nat) (S : World → Prop) : Nat → Array Bool → Act → World → Prop
  | 0, l, a, w => Region.ready md ops l = [] ∧ Q .normal a w
  | n + 1, l, a, w => (Region.ready md ops l = [] → Q .normal a w) ∧
    ∀ i ∈ Region.ready md ops l, wpOp P ops Q i (fun a' w' => Until D S (l.setIfInBounds i true) w' ∧ wpU P md ops Q D S n (l.setIfInBounds i true) a' w') a w
theorem wpAny_of_U : ∀ (n : Nat) (l : Array Bool) (a : Act) (w : World), wpU P md ops Q D S n l a w → wpAny P md ops Q n l a w
  | 0, _, _, _, h => h
  | n + 1, _, _, _, h => ⟨h.1, fun i hi => wpOp_mono (fun a' w' k => wpAny_of_U n _ a' w' k.2) (h.2 i hi)⟩
theorem wp_region_U (D : List Nat) (S : World → Prop) {id : Nat} {a : Act} {w : World} (hm : P.follows .mixedOrders = true)
    (h : wpU P .any ops Q D S ops.size (Array.replicate ops.size false) a w.drew) : (Code.region id ops true).wp P Q a w :=
  wp_region_any hm (wpAny_of_U _ _ _ _ h)

theorem unset {l : Array Bool} {i d : Nat} (h : (l.setIfInBounds i true).getD d true = false) : l.getD d true = false := by
  by_cases e : i = d
  · subst e
    rcases Nat.lt_or_ge i l.size with k | k <;> simp [k] at h
  · rwa [getD_set_ne true e] at h
/-- T is what the operation asks of the world; it is at hand while i is still to come -/
theorem wpU_first {i : Nat} {oi : Oper} {v : Value} {T : World → Prop} (hi : ops[i]? = some oi) (hsel : ∀ (j : Nat) (o : Oper) cs b, ops[j]? = some o → o.op ≠ .select cs b)
    (hQ : ∀ c a w, Q (.panic c) (a.put oi.dst v) w → Q (.panic c) a w)
    (hT : ∀ l w, l.getD i true = true → Until D S l w → (∀ j oj, ops[j]? = some oj → (∃ e ∈ oj.after, Region.binds md e = true ∧ e.on = i) → l.getD j true = false) → T w ∧ (∀ l', (∀ d, l'.getD d true = false → l.getD d true = false ∨ d = i) → Until D S l' w)) :
    ∀ (n : Nat) (l : Array Bool) (a : Act) (w : World),
      (∀ j oj, ops[j]? = some oj → j ≠ i → l.getD j true = false → (∀ e ∈ oj.after, Region.binds md e = true → e.on ≠ i) → oi.apart ops oj = true) →
      (∀ j oj, ops[j]? = some oj → (∃ e ∈ oj.after, Region.binds md e = true ∧ e.on = i) → j ≠ i ∧ l.getD j true = false) →
      i ∈ Region.ready md ops l → YieldsIf P ops T oi v a → T w → Until D S (l.setIfInBounds i true) w →
      wpU P md ops Q D S n (l.setIfInBounds i true) (a.put oi.dst v) w → wpU P md ops Q D S (n + 1) l a w := by
  intro n
  induction n with
  | zero =>
    intro l a w _ _ hr hy hS hU H
    refine ⟨fun h => (by rw [h] at hr; cases hr), fun j hj => ?_⟩
    by_cases hji : j = i
    · subst hji; exact hy.wpOp hi hS ⟨hU, H⟩
    · have := ready_mono hj hji
      rw [H.1] at this
      cases this
  | succ n ih =>
    intro l a w hfree hw hr hy hS hU H
    refine ⟨fun h => (by rw [h] at hr; cases hr), fun j hj => ?_⟩
    by_cases hji : j = i
    · subst hji; exact hy.wpOp hi hS ⟨hU, H⟩
    · have h1 := H.2 j (ready_mono hj hji)
      obtain ⟨hjun, oj, hoj, hall⟩ := mem_ready.1 hj
      have hiun := (mem_ready.1 hr).1
      have hnot : ∀ e ∈ oj.after, Region.binds md e = true → e.on ≠ i := fun e he hb heq => by
        have h2 := hall e he hb
        rw [heq, getD_both hiun] at h2
        cases h2
      have h2 := wpOp_putIf hoj (hfree j oj hoj hji hjun hnot) (fun cs b => hsel i oi cs b hi) (fun cs b => hsel j oj cs b hoj) hQ hy h1
      have hfree' : ∀ k ok, ops[k]? = some ok → k ≠ i → (l.setIfInBounds j true).getD k true = false →
          (∀ e ∈ ok.after, Region.binds md e = true → e.on ≠ i) → oi.apart ops ok = true := fun k ok hk hki hun hno => hfree k ok hk hki (unset hun) hno
      have hw' : ∀ k ok, ops[k]? = some ok → (∃ e ∈ ok.after, Region.binds md e = true ∧ e.on = i) → k ≠ i ∧ (l.setIfInBounds j true).getD k true = false := fun k ok hk he => by
        obtain ⟨h3, h4⟩ := hw k ok hk he
        refine ⟨h3, ?_⟩
        have : j ≠ k := by
          rintro rfl
          obtain ⟨e, he1, he2, he3⟩ := he
          rw [hk] at hoj; injection hoj with hoj; subst hoj
          exact hnot e he1 he2 he3
        rwa [getD_set_ne true this]
      refine wpOp_mono (fun a' w' h3 => ?_) h2
      obtain ⟨h5, h6, h7⟩ := h3
      have hlt : i < l.size := by
        rcases Nat.lt_or_ge i l.size with k | k
        · exact k
        · simp [Array.getElem?_eq_none k] at hiun
      rw [Array.setIfInBounds_comm _ _ (fun e => hji e.symm)] at h6 h7
      obtain ⟨t1, t2⟩ := hT ((l.setIfInBounds j true).setIfInBounds i true) w' (by simp [hlt]) h6
        (fun k ok hk he => by obtain ⟨h8, h9⟩ := hw' k ok hk he; rwa [getD_set_ne true (fun e => h8 e.symm)])
      refine ⟨t2 _ fun d hd => ?_, ih (l.setIfInBounds j true) a' w' hfree' hw' (ready_mono hr (Ne.symm hji)) h5 t1 h6 h7⟩
      by_cases hdi : d = i
      · exact .inr hdi
      · exact .inl (by rwa [getD_set_ne true (fun e => hdi e.symm)])
def waitB (md : Region.Mode) (ops : Array Oper) (i : Nat) (l : Array Bool) : Bool := (List.range ops.size).all fun j => !Region.waitsFor md ops j i || (decide (j ≠ i) && !l.getD j true)
theorem waitB_spec {i : Nat} {l : Array Bool} (h : waitB md ops i l = true) : ∀ j oj, ops[j]? = some oj → (∃ e ∈ oj.after, Region.binds md e = true ∧ e.on = i) → j ≠ i ∧ l.getD j true = false := by
  intro j oj hj ⟨e, he, hb, hon⟩
  have h1 := List.all_eq_true.1 h j (List.mem_range.2 (Array.getElem?_eq_some_iff.1 hj).1)
  have h2 : Region.waitsFor md ops j i = true := by
    unfold Region.waitsFor
    simp only [hj]
    exact Array.any_eq_true'.2 ⟨e, he, by simp [hb, hon]⟩
  rw [h2] at h1
  simpa using h1
/-- may these be taken first, one behind the other? pure: no one of D among them; else each is waited for by one of D -/
def segU (md : Region.Mode) (ops : Array Oper) (D : List Nat) (pure : Bool) : List Nat → Array Bool → Bool
  | [], _ => true
  | i :: r, l => decide (i < ops.size) && Region.free md ops l i && (Region.ready md ops l).contains i && waitB md ops i l && (if pure then !D.contains i else D.any fun d => Region.waitsFor md ops d i) && segU md ops D pure r (l.setIfInBounds i true)
theorem until_set {l : Array Bool} {w : World} {i : Nat} (h : Until D S l w) : Until D S (l.setIfInBounds i true) w := fun d hd k => h d hd (unset k)
theorem U_seg (hs : Region.noSelect ops = true) (hQ : ∀ c a d v w, Q (.panic c) (a.put d v) w → Q (.panic c) a w) (pure : Bool) {fuel : Nat} {w : World} :
    ∀ (r : List Nat) (l : Array Bool) (a : Act), (pure = false → S w) → Until D S l w → segU md ops D pure r l = true →
      wpYield P ops (if pure then fun _ => True else S) (fun a' => wpU P md ops Q D S fuel (segMark r l) a' w) (r.filterMap (ops[·]?)) a → wpU P md ops Q D S (r.length + fuel) l a w
  | [], l, a, _, _, _, h => by simpa [wpYield, segMark] using h
  | i :: r, l, a, hS, hU, hk, h => by
    simp only [segU, Bool.and_eq_true, decide_eq_true_eq] at hk
    obtain ⟨⟨⟨⟨⟨h1, h2⟩, h3⟩, h4⟩, h5⟩, h6⟩ := hk
    have hi : ops[i]? = some ops[i] := Array.getElem?_eq_getElem h1
    rw [List.filterMap_cons, hi] at h
    obtain ⟨v, hy, hK⟩ := h
    have ih := U_seg hs hQ pure r (l.setIfInBounds i true) (a.put ops[i].dst v) hS (until_set hU) h6 hK
    rw [List.length_cons, show r.length + 1 + fuel = (r.length + fuel) + 1 by omega]
    refine wpU_first hi (Region.noSelect_spec hs) (fun c a w => hQ c a _ v w) ?_ _ l a w (Region.free_spec hi h2) (waitB_spec h4) (by simpa using h3) hy ?_ (until_set hU) ih
    · intro l' w' _ hU' hw'
      cases pure with
      | true =>
        refine ⟨trivial, fun l'' hl d hd hd2 => ?_⟩
        rcases hl d hd2 with h | h
        · exact hU' d hd h
        · subst h; simp at h5; exact absurd hd h5
      | false =>
        simp only [Bool.false_eq_true, if_false] at h5
        obtain ⟨d, hd, hwt⟩ := List.any_eq_true.1 h5
        obtain ⟨oj, hoj, e, he, hb, hon⟩ := Region.waitsFor_spec hwt
        have hsw : S w' := hU' d hd (hw' d oj hoj ⟨e, he, hb, hon⟩)
        exact ⟨hsw, fun _ _ _ _ _ => hsw⟩
    · cases pure with
      | true => trivial
      | false => exact hS rfl
theorem U_seg' (pure : Bool) {fuel : Nat} {w : World} {r : List Nat} {n : Nat} {l : Array Bool} {a : Act} {os : List Oper} (hn : n = r.length + fuel) (hs : Region.noSelect ops = true) (hk : segU md ops D pure r l = true) (ho : r.filterMap (ops[·]?) = os)
    (hQ : ∀ c a d v w, Q (.panic c) (a.put d v) w → Q (.panic c) a w) (hS : pure = false → S w) (hU : Until D S l w)
    (h : wpYield P ops (if pure then fun _ => True else S) (fun a' => wpU P md ops Q D S fuel (segMark r l) a' w) os a) : wpU P md ops Q D S n l a w := by
  subst hn; subst ho
  exact U_seg hs hQ pure r l a hS hU hk h
theorem U_segP {fuel : Nat} {w : World} {r : List Nat} {n : Nat} {l : Array Bool} {a : Act} {os : List Oper} (hn : n = r.length + fuel) (hs : Region.noSelect ops = true) (hk : segU md ops D true r l = true) (ho : r.filterMap (ops[·]?) = os)
    (hQ : ∀ c a d v w, Q (.panic c) (a.put d v) w → Q (.panic c) a w) (hU : Until D S l w)
    (h : wpYield P ops (fun _ => True) (fun a' => wpU P md ops Q D S fuel (segMark r l) a' w) os a) : wpU P md ops Q D S n l a w := U_seg' true hn hs hk ho hQ (fun h => by cases h) hU h
theorem U_segL {fuel : Nat} {w : World} {r : List Nat} {n : Nat} {l : Array Bool} {a : Act} {os : List Oper} (hn : n = r.length + fuel) (hs : Region.noSelect ops = true) (hk : segU md ops D false r l = true) (ho : r.filterMap (ops[·]?) = os)
    (hQ : ∀ c a d v w, Q (.panic c) (a.put d v) w → Q (.panic c) a w) (hS : S w)
    (h : wpYield P ops S (fun a' => wpU P md ops Q D S fuel (segMark r l) a' w) os a) : wpU P md ops Q D S n l a w := U_seg' false hn hs hk ho hQ (fun _ => hS) (fun _ _ _ => hS) h
/-- whichever is ready -/
theorem U_all {rs : List Nat} {fuel : Nat} {l : Array Bool} {a : Act} {w : World} (hr : Region.ready md ops l = rs) (hne : rs ≠ [])
    (h : ∀ i ∈ rs, wpOp P ops Q i (fun a' w' => Until D S (l.setIfInBounds i true) w' ∧ wpU P md ops Q D S fuel (l.setIfInBounds i true) a' w') a w) : wpU P md ops Q D S (fuel + 1) l a w :=
  ⟨fun h0 => absurd (hr ▸ h0) hne, hr ▸ h⟩
theorem U_eff {fuel : Nat} {w : World} (i : Nat) {o : Oper} {l : Array Bool} {a : Act} (hi : ops[i]? = some o) (hr : Region.ready md ops l = [i]) (hw : Region.wanted o (yielded ops a.tmps) = true)
    (h : ∀ K : Act → World → Prop, (∀ a w, Until D S (l.setIfInBounds i true) w ∧ wpU P md ops Q D S fuel (l.setIfInBounds i true) a w → K a w) → o.wp P a w K Q) : wpU P md ops Q D S (fuel + 1) l a w := by
  refine U_all hr (by simp) fun j hj => ?_
  rw [List.mem_singleton.1 hj]
  unfold wpOp
  simp only [hi, hw, if_true]
  exact .inl (h _ fun _ _ hh => hh)
theorem U_done {l : Array Bool} {a : Act} {w : World} (hr : Region.ready md ops l = []) (h : Q .normal a w) : ∀ fuel, wpU P md ops Q D S fuel l a w
  | 0 => ⟨hr, h⟩
  | _ + 1 => ⟨fun _ => h, by rw [hr]; simp⟩
theorem until_of {l : Array Bool} {w : World} (h : S w) : Until D S l w := fun _ _ _ => h
theorem until_past {l : Array Bool} {w : World} (h : (D.all fun d => l.getD d true) = true) : Until D S l w := fun d hd k => by
  have := List.all_eq_true.1 h d hd
  rw [k] at this; cases this
end
end Go.BW


/- A slice cut at its end, and the lesser of two numbers, in a walk; under the premises that each lemma states. -/
namespace Go.BW
open Go.RowKit
variable {P : Program}
theorem run_slice_hi (t e : TypeId) (ht : P.underlying t = some (.slice e)) {size : Nat} (hi : (P.info? e).map (·.size) = some size) {w : World} (A : Option Addr) (n c h : Nat) (hc : h ≤ c) :
    (Instr.slice t (.slice A n c) none (some (.int .i64 h)) none).run P w = .ok (.slice A h c) w := by
  obtain ⟨i, hi, hs⟩ := Option.map_eq_some_iff.1 hi
  have hb : 0 ≤ (h : Int) ∧ (h : Int) ≤ c := ⟨by omega, by omega⟩
  have ha : (if c = 0 then A else A.map (·.add (0 * size))) = A := by
    split
    · rfl
    · cases A with
      | none => rfl
      | some a => simp only [Option.map_some, Nat.zero_mul]; unfold Addr.add; rw [if_pos rfl]
  unfold Instr.slice
  rw [Sem.run_bind, run_underlying ht]
  rw [Nat.zero_mul] at ha
  simp [Instr.sliceBounds, Instr.sliceBound, asIntOf, hc, sizeOf, typeInfo, hi, hs]
  first | done | exact ha | simpa using ha
theorem run_sliceAt_hi (t e : TypeId) (ht : P.underlying t = some (.slice e)) {size : Nat} (hi : (P.info? e).map (·.size) = some size) {w : World} (A : Option Addr) (n c h : Nat) (hc : h ≤ c) :
    (Instr.sliceAt t (.slice A n c) none (some (.int .i64 h)) none).run P w = .ok (.slice A h c) w := by
  unfold Instr.sliceAt
  rw [Sem.run_bind, run_underlying ht]
  exact run_slice_hi t e ht hi A n c h hc
theorem run_min_nat {w : World} (ts : Array TypeId) (t : TypeId) (a b : Nat) : (Builtin.min_ ts t #[.int .i64 a, .int .i64 b]).run P w = .ok (.int .i64 (min a b : Nat)) w := by
  have e : (if (b : Int) < (a : Int) then (b : Int) else a) = ((min a b : Nat) : Int) := by
    split <;> omega
  show (Builtin.min2 (.int .i64 a) (.int .i64 b)).run P w = _
  unfold Builtin.min2
  rw [Sem.run_pure, e]
theorem run_max_nat {w : World} (ts : Array TypeId) (t : TypeId) (a b : Nat) : (Builtin.max_ ts t #[.int .i64 a, .int .i64 b]).run P w = .ok (.int .i64 (max a b : Nat)) w := by
  have e : (if (a : Int) < (b : Int) then (b : Int) else a) = ((max a b : Nat) : Int) := by
    split <;> omega
  show (Builtin.max2 (.int .i64 a) (.int .i64 b)).run P w = _
  unfold Builtin.max2
  first | rw [Sem.run_pure, e] | (rw [Sem.run_pure]; congr 2; omega)
section
variable {ops : Array Oper} {rest : List Oper} {o : Oper} {a : Act} {Q : Exit → Act → World → Prop} {w : World}
theorem run_exec_slice_hi (t e : TypeId) (ht : P.underlying t = some (.slice e)) {size : Nat} (hi : (P.info? e).map (·.size) = some size) (x h : Operand) (hop : o.op = .slice t x none (some h) none) (A : Option Addr) (n c k : Nat) (hx : a.eval x = .slice A n c) (hh : a.eval h = .int .i64 k) (hc : k ≤ c) :
    (execOp a.eval o).run P w = .ok (.value (.slice A k c)) w := by
  have := run_sliceAt_hi t e ht hi (w := w) A n c k hc
  unfold execOp
  simp [hop, hx, hh, this]
theorem wpList_slice_hi (t e : TypeId) (ht : P.underlying t = some (.slice e)) {size : Nat} (hi : (P.info? e).map (·.size) = some size) (x h : Operand) (hop : o.op = .slice t x none (some h) none) (hw : Region.wanted o (yielded ops a.tmps) = true) (A : Option Addr) (n c k : Nat) (hx : a.eval x = .slice A n c) (hh : a.eval h = .int .i64 k) (hc : k ≤ c)
    (hK : wpList P ops Q rest (a.put o.dst (.slice A k c)) w) : wpList P ops Q (o :: rest) a w :=
  wpList_ran hw (run_exec_slice_hi t e ht hi x h hop A n c k hx hh hc) hK
theorem wpList_slice_hi' (t e : TypeId) (ht : P.underlying t = some (.slice e)) {size : Nat} (hi : (P.info? e).map (·.size) = some size) (x h : Operand) (hop : o.op = .slice t x none (some h) none) (hw : Region.wanted o (yielded ops a.tmps) = true) (A : Option Addr) (n c k : Nat) (v : Int) (hx : a.eval x = .slice A n c) (hh : a.eval h = .int .i64 v) (hv : v = (k : Int)) (hc : k ≤ c)
    (hK : wpList P ops Q rest (a.put o.dst (.slice A k c)) w) : wpList P ops Q (o :: rest) a w := by
  subst hv; exact wpList_ran hw (run_exec_slice_hi t e ht hi x h hop A n c k hx hh hc) hK
theorem run_exec_min (ts : Array TypeId) (x y : Operand) (hop : o.op = .call { callee := .builtin .min, args := #[x, y], argTypes := ts }) (m n : Nat) (hx : a.eval x = .int .i64 m) (hy : a.eval y = .int .i64 n) :
    (execOp a.eval o).run P w = .ok (.value (.int .i64 (min m n : Nat))) w := by
  have := run_min_nat (P := P) (w := w) ts o.type m n
  unfold execOp
  simp only [hop, resolve, invoke, builtin, Sem.run_bind, Sem.run_pure, Result.andThen_ok, List.map_toArray, List.map_cons, List.map_nil, hx, hy, this]
theorem wpList_min (ts : Array TypeId) (x y : Operand) (hop : o.op = .call { callee := .builtin .min, args := #[x, y], argTypes := ts }) (hw : Region.wanted o (yielded ops a.tmps) = true) (m n : Nat) (hx : a.eval x = .int .i64 m) (hy : a.eval y = .int .i64 n) {k : Nat} (hk : min m n = k)
    (hK : wpList P ops Q rest (a.put o.dst (.int .i64 k)) w) : wpList P ops Q (o :: rest) a w := by
  subst hk; exact wpList_ran hw (run_exec_min ts x y hop m n hx hy) hK
end
section
variable {ops : Array Oper} {rest : List Oper} {o : Oper} {a : Act} {Q : Exit → Act → World → Prop} {w : World}
theorem run_exec_max_int (ts : Array TypeId) (x y : Operand) (hop : o.op = .call { callee := .builtin .max, args := #[x, y], argTypes := ts }) (m n : Int) (hx : a.eval x = .int .i64 m) (hy : a.eval y = .int .i64 n) :
    (execOp a.eval o).run P w = .ok (.value (.int .i64 (if m < n then n else m))) w := by
  have e : (Builtin.max_ ts o.type #[.int .i64 m, .int .i64 n]).run P w = .ok (.int .i64 (if m < n then n else m)) w := by
    show (Builtin.max2 (.int .i64 m) (.int .i64 n)).run P w = _
    unfold Builtin.max2
    rw [Sem.run_pure]
  unfold execOp
  simp only [hop, resolve, invoke, builtin, Sem.run_bind, Sem.run_pure, Result.andThen_ok, List.map_toArray, List.map_cons, List.map_nil, hx, hy, e]
theorem wpList_max_int (ts : Array TypeId) (x y : Operand) (hop : o.op = .call { callee := .builtin .max, args := #[x, y], argTypes := ts }) (hw : Region.wanted o (yielded ops a.tmps) = true) (m n : Int) (hx : a.eval x = .int .i64 m) (hy : a.eval y = .int .i64 n) {k : Int} (hk : (if m < n then n else m) = k)
    (hK : wpList P ops Q rest (a.put o.dst (.int .i64 k)) w) : wpList P ops Q (o :: rest) a w := by
  subst hk; exact wpList_ran hw (run_exec_max_int ts x y hop m n hx hy) hK
theorem run_exec_min_int (ts : Array TypeId) (x y : Operand) (hop : o.op = .call { callee := .builtin .min, args := #[x, y], argTypes := ts }) (m n : Int) (hx : a.eval x = .int .i64 m) (hy : a.eval y = .int .i64 n) :
    (execOp a.eval o).run P w = .ok (.value (.int .i64 (if n < m then n else m))) w := by
  have e : (Builtin.min_ ts o.type #[.int .i64 m, .int .i64 n]).run P w = .ok (.int .i64 (if n < m then n else m)) w := by
    show (Builtin.min2 (.int .i64 m) (.int .i64 n)).run P w = _
    unfold Builtin.min2
    rw [Sem.run_pure]
  unfold execOp
  simp only [hop, resolve, invoke, builtin, Sem.run_bind, Sem.run_pure, Result.andThen_ok, List.map_toArray, List.map_cons, List.map_nil, hx, hy, e]
theorem wpList_min_int (ts : Array TypeId) (x y : Operand) (hop : o.op = .call { callee := .builtin .min, args := #[x, y], argTypes := ts }) (hw : Region.wanted o (yielded ops a.tmps) = true) (m n : Int) (hx : a.eval x = .int .i64 m) (hy : a.eval y = .int .i64 n) {k : Int} (hk : (if n < m then n else m) = k)
    (hK : wpList P ops Q rest (a.put o.dst (.int .i64 k)) w) : wpList P ops Q (o :: rest) a w := by
  subst hk; exact wpList_ran hw (run_exec_min_int ts x y hop m n hx hy) hK
end
section
variable {ops : Array Oper} {S : World → Prop} {R : Act → Prop} {rest : List Oper} {o : Oper} {a : Act}
theorem wpYield_slice_hi (t e : TypeId) (ht : P.underlying t = some (.slice e)) {size : Nat} (hi : (P.info? e).map (·.size) = some size) (x h : Operand) (hop : o.op = .slice t x none (some h) none) (hw : Region.wanted o (yielded ops a.tmps) = true) (A : Option Addr) (n c k : Nat) (hx : a.eval x = .slice A n c) (hh : a.eval h = .int .i64 k) (hc : k ≤ c)
    (hK : wpYield P ops S R rest (a.put o.dst (.slice A k c))) : wpYield P ops S R (o :: rest) a :=
  wpYield_val hw (fun _ _ => run_exec_slice_hi t e ht hi x h hop A n c k hx hh hc) hK
theorem wpYield_min (ts : Array TypeId) (x y : Operand) (hop : o.op = .call { callee := .builtin .min, args := #[x, y], argTypes := ts }) (hw : Region.wanted o (yielded ops a.tmps) = true) (m n : Nat) (hx : a.eval x = .int .i64 m) (hy : a.eval y = .int .i64 n) {k : Nat} (hk : min m n = k)
    (hK : wpYield P ops S R rest (a.put o.dst (.int .i64 k))) : wpYield P ops S R (o :: rest) a := by
  subst hk; exact wpYield_val hw (fun _ _ => run_exec_min ts x y hop m n hx hy) hK
end
section
variable {t e : TypeId} {z : Value} {size bytes : Nat} {o : Oper} {a : Act} {K : Act → World → Prop} {Q : Exit → Act → World → Prop}
theorem wp_app_lit {w0 : World} (T : El P t e z size bytes) (s x : Operand) (hop : o.op = .call { callee := .builtin .append, args := #[s, x], argTypes := #[t, t] })
    (base : Nat) (hs : a.eval s = .slice (some ⟨w0.heap.size, 0, none⟩) 0 0) {B : Nat} {X : Option Addr} {m d : Nat} {news : List Value} (hx : a.eval x = .slice X m d)
    (hr : Rd w0 B size X m news) (hB : B ≤ w0.heap.size) (h1 : ∀ u ∈ news, u.oneCell' = true) (hsm : m * bytes ≤ 140737488355328 ∧ m ≤ maxLen) (hbase : base ≤ w0.heap.size)
    (hK : ∀ A' c' w', Own w' base e size A' m c' news → Nw w0 w' → K (a.put o.dst (.slice A' m c')) w') : o.wp P a (w0.alloc (.cells #[] e)) K Q := by
  have hown : Own (w0.alloc (.cells #[] e)) w0.heap.size e size (some ⟨w0.heap.size, 0, none⟩) 0 0 [] := World.ownsRow_made w0 #[] 0 (Nat.le_refl _) (by simp) (by simp)
  obtain ⟨A', c', w', hrun, h2, h3, _⟩ := run_app_own T o.type hown (d := d) (hr.nw (World.grownBy_alloc w0 _ none) hB) h1 (by simpa using hsm.1) (by simpa using hsm.2) (by simp)
  rw [Nat.zero_add] at h2 hrun
  exact wp_ran (run_exec_append hop (by rw [hs, hx]; exact hrun)) (hK A' c' w' (by simpa using h2.more hbase) (nw_of_gb (World.grownBy_alloc w0 _ none) h3 (by simp [Value.ownBlock])))
end
end Go.BW


/- Appending several elements to an own row, and appending or copying in a region that draws; results that lie in one cell; under the premises that each lemma states. -/
namespace Go.BW
open Go.RowKit
section
variable {P : Program} {t e : TypeId} {z : Value} {size bytes : Nat}
variable {ops : Array Oper} {rest : List Oper} {o : Oper} {a : Act} {Q : Exit → Act → World → Prop} {w : World}
/-- 'append(s, u, v, ..)', s the call's own -/
theorem wpList_appM_own {w0 : World} {cs : List Value} {m : Nat} (T : El P t e z 1 bytes) (s x : Operand) (hop : o.op = .call { callee := .builtin .append, args := #[s, x], argTypes := #[t, t] }) (hw : Region.wanted o (yielded ops a.tmps) = true)
    {base : Nat} {A : Option Addr} {n c : Nat} {xs : List Value} (hs : a.eval s = .slice A n c) (hx : a.eval x = .slice (some ⟨w0.heap.size, 0, none⟩) m m)
    (hown : Own w0 base e 1 A n c xs) (hcs : cs.length = m) (h1 : ∀ u ∈ cs, u.oneCell' = true) (hsm : (n + m) * bytes ≤ 140737488355328 ∧ n + m ≤ maxLen) (hbase : base ≤ w0.heap.size)
    (hK : ∀ A' c' w', Own w' base e 1 A' (n + m) c' (xs ++ cs) → w0.grownBy w' (Value.slice A n c).ownBlock → wpList P ops Q rest (a.put o.dst (.slice A' (n + m) c')) w') :
    wpList P ops Q (o :: rest) a (w0.alloc (.cells cs.toArray e)) := by
  refine wpList_app_own T s x hop hw hs hx (World.ownsRow.alloc hown _) (rd_lit cs e m hcs) h1 hsm (by simp; omega) fun A' c' w' h2 h3 _ => hK A' c' w' h2 ?_
  exact gb_trans (World.grownBy_alloc w0 _ _) h3
variable {K : Act → World → Prop}
theorem wp_app_own (T : El P t e z size bytes) (s x : Operand) (hop : o.op = .call { callee := .builtin .append, args := #[s, x], argTypes := #[t, t] })
    {base : Nat} {A : Option Addr} {n c : Nat} {xs : List Value} (hs : a.eval s = .slice A n c) {B : Nat} {X : Option Addr} {m d : Nat} {news : List Value} (hx : a.eval x = .slice X m d)
    (hown : Own w base e size A n c xs) (hr : Rd w B size X m news) (h1 : ∀ u ∈ news, u.oneCell' = true) (hsm : (n + m) * bytes ≤ 140737488355328 ∧ n + m ≤ maxLen) (hbase : base ≤ w.heap.size)
    (hK : ∀ A' c' w', Own w' base e size A' (n + m) c' (xs ++ news) → w.grownBy w' (Value.slice A n c).ownBlock →
      ((Value.slice A' (n + m) c').ownBlock = (Value.slice A n c).ownBlock ∨ (Value.slice A' (n + m) c').ownBlock = some w.heap.size) → K (a.put o.dst (.slice A' (n + m) c')) w') :
    o.wp P a w K Q := by
  obtain ⟨A', c', w', hrun, h2, h3, h4⟩ := run_app_own T o.type hown (d := d) hr h1 hsm.1 hsm.2 hbase
  exact wp_ran (run_exec_append hop (by rw [hs, hx]; exact hrun)) (hK A' c' w' h2 h3 h4)
theorem wp_store_own (ty : TypeId) (p x : Operand) (hop : o.op = .store ty p x) {base g n c off : Nat} {xs cs : List Value}
    (hp : a.eval p = .pointer (some ⟨g, off, none⟩)) {v : Value} (hx : a.eval x = v) (hv : v.cells = cs.toArray) (hi : (P.info? ty).map (·.size) = some cs.length) (h1 : ∀ u ∈ cs, u.oneCell' = true)
    (hown : Own w base e size (some ⟨g, 0, none⟩) n c xs) (hfit : off + cs.length ≤ n * size)
    (hK : ∀ w', Own w' base e size (some ⟨g, 0, none⟩) n c (splice xs off cs) → w.grownBy w' (some g) → K (a.put o.dst undef) w') : o.wp P a w K Q := by
  obtain ⟨w', hrun, h2, h3⟩ := run_store_own (P := P) ty hv hi h1 hown hfit
  exact wp_ran_skip (run_exec_store ty p x hop hp hx hrun) (hK w' h2 h3)
theorem wp_copy (dT sT elem : TypeId) (hu : P.underlying dT = some (.slice elem)) (hsz : (P.info? elem).map (·.size) = some 1) (d s : Operand)
    (hop : o.op = .call { callee := .builtin .copy, args := #[d, s], argTypes := #[dT, sT] })
    {base g n c off dLen dCap m cc B : Nat} {X : Option Addr} {xs news : List Value} (hd : a.eval d = .slice (some ⟨g, off, none⟩) dLen dCap) (hs : a.eval s = .slice X m cc)
    (hown : Own w base e size (some ⟨g, 0, none⟩) n c xs) (hr : Rd w B 1 X m news) (h1 : ∀ u ∈ news, u.oneCell' = true) (hfit : off + Nat.min m dLen ≤ n * size)
    (hK : ∀ w', Own w' base e size (some ⟨g, 0, none⟩) n c (splice xs off (news.take dLen)) → w.grownBy w' (some g) → K (a.put o.dst (goInt (Nat.min m dLen))) w') :
    o.wp P a w K Q := by
  obtain ⟨w', hrun, h2, h3⟩ := run_copy_mine (P := P) dT sT o.type elem hu hsz hown (dCap := dCap) (d := cc) hr h1 hfit
  refine wp_ran (w' := w') (v := goInt (Nat.min m dLen)) ?_ (hK w' h2 h3)
  unfold execOp
  simp only [hop, resolve, invoke, builtin, Sem.run_bind, Sem.run_pure, Result.andThen_ok, List.map_toArray, List.map_cons, List.map_nil, hd, hs, hrun]
end
theorem res_cell {P : Program} {fn : Func} {p : Tmp} {ty : TypeId} (h : fn.results = #[.cell p ty]) (tmps : Array Value) (w : World) (g : Nat) (t : TypeId) (cs : Array Value) (d : TypeDesc)
    (hp : tmps.getD p undef = .pointer (some ⟨g, 0, none⟩)) (hg : Obj1 w g t cs) (hu : P.underlying ty = some d) (hd : (match d with | .struct _ | .array _ _ => true | _ => false) = true) (hi : (P.info? ty).map (·.size) = some cs.size) :
    (results fn tmps).run P w = .ok (.agg cs) w := by
  simp only [results, h]
  rw [Array.getD_eq_getD_getElem?] at hp
  simp [Sem.run_bind, hp, asAddr, run_loadVar_row w g t ty cs (0, 0) d hg hu hd hi]
section
variable {P : Program}
/-- a slice of a slice, 'x[l:h]' -/
def cutA (A : Option Addr) (c l size : Nat) : Option Addr := if c = l then A else A.map (·.add (l * size))
theorem run_slice_lhN (t e : TypeId) (ht : P.underlying t = some (.slice e)) {size : Nat} (hi : (P.info? e).map (·.size) = some size) {w : World} (A : Option Addr) (n c l h : Nat) (hl : l ≤ h) (hc : h ≤ c) :
    (Instr.sliceAt t (.slice A n c) (some (.int .i64 l)) (some (.int .i64 h)) none).run P w = .ok (.slice (cutA A c l size) (h - l) (c - l)) w := by
  obtain ⟨i, hi, hs⟩ := Option.map_eq_some_iff.1 hi
  have h1 : (l : Int) ≤ h := by omega
  have h2 : (h : Int) ≤ c := by omega
  unfold Instr.sliceAt
  rw [Sem.run_bind, run_underlying ht]
  simp only [Result.andThen_ok]
  unfold Instr.slice
  rw [Sem.run_bind, run_underlying ht]
  simp [Instr.sliceBounds, run_sliceBound, sizeOf, typeInfo, hi, hs, h1, h2, hl, hc, cutA]
theorem run_slice_lN (t e : TypeId) (ht : P.underlying t = some (.slice e)) {size : Nat} (hi : (P.info? e).map (·.size) = some size) {w : World} (A : Option Addr) (n c l : Nat) (hl : l ≤ n) (hc : n ≤ c) :
    (Instr.sliceAt t (.slice A n c) (some (.int .i64 l)) none none).run P w = .ok (.slice (cutA A c l size) (n - l) (c - l)) w := by
  obtain ⟨i, hi, hs⟩ := Option.map_eq_some_iff.1 hi
  have h1 : (l : Int) ≤ n := by omega
  have h2 : (n : Int) ≤ c := by omega
  unfold Instr.sliceAt
  rw [Sem.run_bind, run_underlying ht]
  simp only [Result.andThen_ok]
  unfold Instr.slice
  rw [Sem.run_bind, run_underlying ht]
  simp [Instr.sliceBounds, run_sliceBound, sizeOf, typeInfo, hi, hs, h1, h2, hl, hc, cutA]
section
variable {ops : Array Oper} {rest : List Oper} {o : Oper} {a : Act} {Q : Exit → Act → World → Prop} {w : World}
theorem wpList_slice_lh (t e : TypeId) (ht : P.underlying t = some (.slice e)) (size : Nat) (hi : (P.info? e).map (·.size) = some size) (x l h : Operand) (hop : o.op = .slice t x (some l) (some h) none) (hw : Region.wanted o (yielded ops a.tmps) = true) (A : Option Addr) (n c : Nat) (kl kh : Nat) (vl vh : Int) (hx : a.eval x = .slice A n c) (hl : a.eval l = .int .i64 vl) (hh : a.eval h = .int .i64 vh)
    (el : vl = kl) (eh : vh = kh) (h1 : kl ≤ kh) (h2 : kh ≤ c) {A' : Option Addr} {m c' : Nat} (hA : cutA A c kl size = A') (hm : kh - kl = m) (hc' : c - kl = c') (hK : wpList P ops Q rest (a.put o.dst (.slice A' m c')) w) : wpList P ops Q (o :: rest) a w := by
  subst hA; subst hm; subst el; subst eh; subst hc'
  refine wpList_ran hw ?_ hK
  have := run_slice_lhN t e ht hi (w := w) A n c kl kh h1 h2
  unfold execOp
  simp [hop, hx, hl, hh, this]
end
section
variable {ops : Array Oper} {rest : List Oper} {o : Oper} {a : Act} {Q : Exit → Act → World → Prop} {w : World}
theorem wpList_slice_lo (t e : TypeId) (ht : P.underlying t = some (.slice e)) (size : Nat) (hi : (P.info? e).map (·.size) = some size) (x l : Operand) (hop : o.op = .slice t x (some l) none none) (hw : Region.wanted o (yielded ops a.tmps) = true) (A : Option Addr) (n c : Nat) (kl : Nat) (vl : Int) (hx : a.eval x = .slice A n c) (hl : a.eval l = .int .i64 vl)
    (el : vl = kl) (h1 : kl ≤ n) (h2 : n ≤ c) {A' : Option Addr} {m c' : Nat} (hA : cutA A c kl size = A') (hm : n - kl = m) (hc' : c - kl = c') (hK : wpList P ops Q rest (a.put o.dst (.slice A' m c')) w) : wpList P ops Q (o :: rest) a w := by
  subst hA; subst hm; subst el; subst hc'
  refine wpList_ran hw ?_ hK
  have := run_slice_lN t e ht hi (w := w) A n c kl h1 h2
  unfold execOp
  simp [hop, hx, hl, this]
end
theorem cutA_own {g c l size : Nat} (h : l < c) : cutA (some ⟨g, 0, none⟩) c l size = some ⟨g, l * size, none⟩ := by
  unfold cutA
  rw [if_neg (by omega)]
  simp only [Option.map_some]
  unfold Addr.add
  split
  · next h => rw [h]
  · simp
theorem Rd.cut {w : World} {B size n c l h : Nat} {A : Option Addr} {xs : List Value} (hr : Rd w B size A n xs) (hl : l ≤ h) (hh : h ≤ n) (hc : n ≤ c) : Rd w B size (cutA A c l size) (h - l) ((xs.take (h * size)).drop (l * size)) :=
  (hr.take hh).drop hl (Nat.le_trans hh hc)
end
section
variable {P : Program} {ops : Array Oper} {rest : List Oper} {o : Oper} {a : Act} {Q : Exit → Act → World → Prop} {w : World}
theorem Obj1.own {w : World} {g : Nat} {t : TypeId} {cs : Array Value} {size : Nat} (h : Obj1 w g t cs) (hs : cs.size = size) : Own w 0 t size (some ⟨g, 0, none⟩) 1 1 cs.toList :=
  ⟨by rw [Nat.one_mul]; simpa using hs, .inr ⟨g, 1, cs, rfl, Nat.zero_le _, h, Nat.le_refl _, by unfold maxLen; omega, by rw [Nat.one_mul]; exact hs, by rw [Nat.one_mul]; exact List.take_of_length_le (by simp; omega)⟩⟩
/-- a whole variable stored -/
theorem wpList_store_obj (ty : TypeId) (p x : Operand) (hop : o.op = .store ty p x) (hw : Region.wanted o (yielded ops a.tmps) = true) {g : Nat} {t : TypeId} {c0 : Array Value} (cs : List Value)
    (hp : a.eval p = .pointer (some ⟨g, 0, none⟩)) {v : Value} (hx : a.eval x = v) (hv : v.cells = cs.toArray) (hi : (P.info? ty).map (·.size) = some cs.length) (h1 : ∀ u ∈ cs, u.oneCell' = true)
    (ho : Obj1 w g t c0) (hl : c0.size = cs.length) (hK : ∀ w', Obj1 w' g t cs.toArray → w.grownBy w' (some g) → wpList P ops Q rest (a.put o.dst undef) w') : wpList P ops Q (o :: rest) a w := by
  refine wpList_store_own ty p x hop hw hp hx hv hi h1 (ho.own hl) (by omega) fun w' h2 h3 => hK w' ?_ h3
  rw [splice_all _ _ (by simpa using hl.symm)] at h2
  exact h2.row1'
/-- a whole variable loaded -/
theorem wpList_load_obj (ty : TypeId) (x : Operand) (hop : o.op = .load ty x) (hw : Region.wanted o (yielded ops a.tmps) = true) {g : Nat} {t : TypeId} {cs : Array Value} (hx : a.eval x = .pointer (some ⟨g, 0, none⟩)) (ho : Obj1 w g t cs)
    (d : TypeDesc) (hu : P.underlying ty = some d) (hd : (match d with | .struct _ | .array _ _ => true | _ => false) = true) (hi : (P.info? ty).map (·.size) = some cs.size)
    (hK : wpList P ops Q rest (a.put o.dst (.agg cs)) w) : wpList P ops Q (o :: rest) a w := by
  have h := wpList_load_agg (P := P) (ops := ops) (rest := rest) (o := o) (a := a) (Q := Q) (w := w) ty x hop hw hx cs.toList (fun j u hu => by rw [Nat.zero_add, ho.cell j]; simpa using hu) d hu hd (by simpa using hi)
  simp only [Array.toArray_toList] at h
  exact h hK
theorem Obj1.ownN {w : World} {g : Nat} {t : TypeId} {cs : Array Value} {size n base : Nat} (h : Obj1 w g t cs) (hs : cs.size = n * size) (hb : base ≤ g) (hn : n ≤ maxLen) : Own w base t size (some ⟨g, 0, none⟩) n n cs.toList :=
  ⟨by simpa using hs, .inr ⟨g, n, cs, rfl, hb, h, Nat.le_refl _, hn, hs, List.take_of_length_le (by simp; omega)⟩⟩
theorem obj_fst (w : World) (t : TypeId) (B : Array Value) (Y : Obj) : Obj1 ((w.alloc (.cells B t)).alloc Y) w.heap.size t B := (Obj1.new w t B).nw (World.grownBy_alloc _ Y none)
theorem obj_snd (w : World) (X : Obj) (t : TypeId) (B : Array Value) : Obj1 ((w.alloc X).alloc (.cells B t)) (w.heap.size + 1) t B := by
  have h := Obj1.new (w.alloc X) t B
  simpa using h
end
section
variable {P : Program} {t e : TypeId} {z : Value} {size bytes : Nat} {w : World}
/-- 'clear(s[off:])' on the call's own row -/
theorem run_clear_own (T : El P t e z size bytes) (ty : TypeId) {base g n c off m d : Nat} {xs : List Value} (hz1 : ∀ u ∈ z.cells.toList, u.oneCell' = true) (hm : 0 < m)
    (hown : Own w base e size (some ⟨g, 0, none⟩) n c xs) (hfit : off + m * size ≤ n * size) :
    ∃ w', (Builtin.clear_ #[t] ty #[.slice (some ⟨g, off, none⟩) m d]).run P w = .ok (.tuple #[]) w' ∧ Own w' base e size (some ⟨g, 0, none⟩) n c (splice xs off (Builtin.zeroCells z.cells m).toList) ∧ w.grownBy w' (some g) := by
  obtain ⟨i, hq, hz, hs, _⟩ := T.info
  have hzl : (Builtin.zeroCells z.cells m).toList.length = m * size := by simp [Builtin.zeroCells, T.zs]
  have h1 : ∀ u ∈ (Builtin.zeroCells z.cells m).toList, u.oneCell' = true := by
    intro u hu
    simp only [Builtin.zeroCells, Array.toList_map, List.mem_map] at hu
    obtain ⟨k, _, rfl⟩ := hu
    have hk : k % z.cells.size < z.cells.size := Nat.mod_lt _ (by rw [T.zs]; exact T.pos)
    rw [getElem!_pos z.cells (k % z.cells.size) hk]
    exact hz1 _ (by simp)
  rcases hown.2 with ⟨h', _⟩ | ⟨g', cap, cur, hv', hb, hg, hnc, hcm, hcs, htake⟩
  · simp at h'
  · simp only [Value.slice.injEq, Option.some.injEq, Addr.mk.injEq, and_true, true_and] at hv'
    obtain ⟨rfl, rfl⟩ := hv'
    have hnn : n * size ≤ cur.size := by rw [hcs]; exact Nat.mul_le_mul_right _ hnc
    obtain ⟨L, hL⟩ : ∃ L, (Builtin.zeroCells z.cells m).toList = L := ⟨_, rfl⟩
    rw [hL] at hzl h1 ⊢
    have hst := run_storeCells_at P g off e L 0 cur w hg (by omega) h1
    rw [Nat.add_zero] at hst
    have hcu : cur.toList.length = cur.size := Array.length_toList
    have hxl : xs.length = n * size := hown.1
    refine ⟨w.setRow g (cur.toList.take off ++ L ++ cur.toList.drop (off + L.length)).toArray, ?_, ?_, ⟨rfl, rfl, rfl, by simp [World.setRow], fun k _ hk => setRow_other w g k _ (fun e => hk (by rw [e]))⟩⟩
    rotate_left
    · refine ⟨by rw [length_splice _ _ _ (by omega)]; exact hxl, .inr ⟨g, c, _, rfl, hb, setRow_heap w g cur (cur.toList.take off ++ L ++ cur.toList.drop (off + L.length)).toArray e _ hg, hnc, hcm, ?_, ?_⟩⟩
      · rw [List.append_assoc, ← hcs, List.size_toArray, ← hcu]
        exact length_splice _ _ _ (by omega)
      · rw [← htake]
        show (cur.toList.take off ++ L ++ cur.toList.drop (off + L.length)).take (n * size) = _
        rw [List.append_assoc]
        exact splice_take _ _ _ _ (by omega) (by omega)
    · obtain ⟨m', rfl⟩ : ∃ m', m = m' + 1 := ⟨m - 1, by omega⟩
      obtain ⟨W', hW⟩ : ∃ W', w.setRow g (cur.toList.take off ++ L ++ cur.toList.drop (off + L.length)).toArray = W' := ⟨_, rfl⟩
      rw [hW] at hst ⊢
      simp [Builtin.clear_, run_underlying T.und, zeroValue, typeInfo, hq, hz, hL, hst]
theorem wpList_clear_own {ops : Array Oper} {rest : List Oper} {o : Oper} {a : Act} {Q : Exit → Act → World → Prop} (T : El P t e z size bytes) (s : Operand) (hop : o.op = .call { callee := .builtin .clear, args := #[s], argTypes := #[t] }) (hw : Region.wanted o (yielded ops a.tmps) = true)
    {base g n c off m d : Nat} {xs : List Value} (hs : a.eval s = .slice (some ⟨g, off, none⟩) m d) (hz1 : ∀ u ∈ z.cells.toList, u.oneCell' = true) (hm : 0 < m) (hown : Own w base e size (some ⟨g, 0, none⟩) n c xs) (hfit : off + m * size ≤ n * size)
    (hK : ∀ w', Own w' base e size (some ⟨g, 0, none⟩) n c (splice xs off (Builtin.zeroCells z.cells m).toList) → w.grownBy w' (some g) → wpList P ops Q rest (a.put o.dst (.tuple #[])) w') : wpList P ops Q (o :: rest) a w := by
  obtain ⟨w', hrun, h2, h3⟩ := run_clear_own T o.type (d := d) hz1 hm hown hfit
  refine wpList_ran hw (w' := w') (v := .tuple #[]) ?_ (hK w' h2 h3)
  unfold execOp
  simp only [hop, resolve, invoke, builtin, Sem.run_bind, Sem.run_pure, Result.andThen_ok, List.map_toArray, List.map_cons, List.map_nil, hs, hrun]
/-- the beginning of an own row -/
theorem Own.front' {base g n c k : Nat} {xs : List Value} (h : Own w base e size (some ⟨g, 0, none⟩) n c xs) (hk : k ≤ n) : Own w base e size (some ⟨g, 0, none⟩) k c (xs.take (k * size)) := by
  have hl := h.1
  have hks : k * size ≤ n * size := Nat.mul_le_mul_right _ hk
  refine ⟨by rw [List.length_take]; omega, ?_⟩
  rcases h.2 with ⟨h', _⟩ | ⟨g', cap, cur, hv, hb, hg, hnc, hcm, hcs, htake⟩
  · simp at h'
  · injection hv with h1 _ h3
    injection h1 with h1; injection h1 with h1
    subst h1; subst h3
    refine .inr ⟨g, c, cur, rfl, hb, hg, by omega, hcm, hcs, ?_⟩
    rw [← htake, List.take_take, Nat.min_eq_left hks]
end
end Go.BW


/- A map whose keys are ints, as a function: look-up, update, clearing; for any program of the model; each under the premises that it states. -/
namespace Go.BW
open Go.RowKit

def lookI (kv : List (Int × Value)) (x : Int) : Option Value := (kv.find? (·.1 == x)).map (·.2)
def updI (x : Int) (v : Value) : List (Int × Value) → List (Int × Value)
  | [] => []
  | p :: l => if p.1 == x then (x, v) :: l else p :: updI x v l
def ekv (e : MapEntry) : Value × Value := (e.key, e.val)
def pkv (p : Int × Value) : Value × Value := (.int .i64 p.1, p.2)
/-- the map at b: what each int leads to -/
def MapI (w : World) (b : Nat) (f : Int → Option Value) : Prop :=
  ∃ es clock, w.heap[b]? = some (.map es clock) ∧ ∃ kv : List (Int × Value), es.toList.map ekv = kv.map pkv ∧ ∀ x, lookI kv x = f x
section
variable {w w' : World} {b : Nat} {f : Int → Option Value}
theorem MapI.lt (h : MapI w b f) : b < w.heap.size := by
  obtain ⟨es, c, h1, _⟩ := h
  exact (Array.getElem?_eq_some_iff.1 h1).1
theorem MapI.eq (h : MapI w b f) (e : w'.heap[b]? = w.heap[b]?) : MapI w' b f := by
  obtain ⟨es, c, h1, h2⟩ := h
  exact ⟨es, c, e.trans h1, h2⟩
theorem MapI.nw (h : MapI w b f) (k : Nw w w') : MapI w' b f := h.eq (k.block b h.lt (by simp))
theorem MapI.drewN (h : MapI w b f) (k : Nat) : MapI (w.drewN k) b f := h
theorem MapI.new (w : World) : MapI (w.alloc (.map #[] 0)) w.heap.size (fun _ => none) := ⟨#[], 0, heap_alloc_new w _, [], rfl, fun _ => rfl⟩
/-- a map and a row are unlike blocks -/
theorem MapI.ne {g : Nat} {t : TypeId} {cs : Array Value} (h : MapI w b f) (k : Obj1 w g t cs) : b ≠ g := by
  rintro rfl
  obtain ⟨es, c, h1, _⟩ := h
  unfold Obj1 at k
  rw [k] at h1
  cases h1
end
theorem lookI_upd (x : Int) (v : Value) (y : Int) : ∀ kv : List (Int × Value), lookI kv x ≠ none → lookI (updI x v kv) y = if y = x then some v else lookI kv y
  | [], h => absurd rfl h
  | p :: l, h => by
    unfold updI
    by_cases hp : p.1 = x
    · rw [if_pos (by simpa using hp)]
      by_cases hy : y = x
      · subst hy; simp [lookI]
      · have h1 : ¬ x = y := fun e => hy e.symm
        have h2 : ¬ p.1 = y := by rw [hp]; exact h1
        simp [lookI, List.find?_cons, beq_eq_false_iff_ne.2 h1, beq_eq_false_iff_ne.2 h2, hy]
    · rw [if_neg (by simpa using hp)]
      have h' : lookI l x ≠ none := by
        intro e; apply h
        simpa [lookI, List.find?_cons, beq_eq_false_iff_ne.2 hp] using e
      have ih := lookI_upd x v y l h'
      by_cases hpy : p.1 = y
      · have hyx : ¬ y = x := by rw [← hpy]; exact hp
        simp [lookI, List.find?_cons, hpy, hyx]
      · simp only [lookI, List.find?_cons, beq_eq_false_iff_ne.2 hpy] at ih ⊢
        exact ih
theorem lookI_push (x : Int) (v : Value) (y : Int) (kv : List (Int × Value)) (h : lookI kv x = none) : lookI (kv ++ [(x, v)]) y = if y = x then some v else lookI kv y := by
  unfold lookI at h ⊢
  rw [Option.map_eq_none_iff] at h
  rw [List.find?_append]
  by_cases hy : y = x
  · subst hy; rw [h]; simp
  · have hx : ¬ x = y := fun e => hy e.symm
    cases hk : kv.find? (·.1 == y) <;> simp [hy, hx]
theorem find_I (d : IntKind) (x : Int) (v : Value) : ∀ (es : List MapEntry) (kv : List (Int × Value)) (i : Nat), es.map ekv = kv.map pkv →
    (lookI kv x = none ∧ Instr.findNow (.int d) (.int .i64 x) es i = some none) ∨
    ∃ j u, Instr.findNow (.int d) (.int .i64 x) es i = some (some (i + j, u)) ∧ lookI kv x = some u ∧ (es[j]?).map (·.key) = some (.int .i64 x) ∧
      (es.modify j fun e => { e with key := .int .i64 x, val := v }).map ekv = (updI x v kv).map pkv
  | [], [], _, _ => .inl ⟨rfl, rfl⟩
  | [], _ :: _, _, h => by simp at h
  | _ :: _, [], _, h => by simp at h
  | e :: es, p :: kv, i, h => by
    simp only [List.map_cons, List.cons.injEq] at h
    obtain ⟨h1, h2⟩ := h
    unfold ekv pkv at h1
    injection h1 with hk hv
    unfold Instr.findNow
    rw [hk]
    simp only [Instr.sameNow, if_true]
    by_cases hp : p.1 = x
    · rw [show (x == p.1) = true by simpa using hp.symm]
      refine .inr ⟨0, e.val, rfl, ?_, ?_, ?_⟩
      · simp [lookI, hp, hv]
      · rw [← hp]; simp [hk]
      · simp only [List.modify_zero_cons, List.map_cons, updI, hp, beq_self_eq_true, if_true, h2]
        rfl
    · rw [show (x == p.1) = false by rw [beq_eq_false_iff_ne]; exact fun e => hp e.symm]
      simp only
      have hne := beq_eq_false_iff_ne.2 hp
      rcases find_I d x v es kv (i + 1) h2 with ⟨h3, h4⟩ | ⟨j, u, h3, h4, h5, h6⟩
      · exact .inl ⟨by simpa [lookI, List.find?_cons, hne] using h3, h4⟩
      · refine .inr ⟨j + 1, u, by rw [h3, Nat.add_assoc, Nat.add_comm 1 j], by simpa [lookI, List.find?_cons, hne] using h4, by simpa using h5, ?_⟩
        simp only [List.modify_succ_cons, List.map_cons, updI, hne, Bool.false_eq_true, if_false, h6, List.cons.injEq, and_true]
        show (e.key, e.val) = (Value.int .i64 p.1, p.2)
        rw [hk, hv]
section
variable {P : Program} {w : World} {b : Nat} {f : Int → Option Value}
structure MapT (P : Program) (t k e : TypeId) (z : Value) : Prop where
  ht : P.underlying t = some (.map k e)
  hk : P.underlying k = some (.int .i64)
  hz : ∀ w, (zeroValue e).run P w = .ok z w
variable {t k e : TypeId} {z : Value}
theorem run_check_I (T : MapT P t k e z) (em : Bool) (x : Int) : (Instr.checkKey em 10000 k (.int .i64 x)).run P w = .ok () w := by
  unfold Instr.checkKey
  rw [Sem.run_bind, run_underlying T.hk w]
  rfl
theorem run_lookup_I (T : MapT P t k e z) (h : MapI w b f) (x : Int) : (Instr.lookup t (.map (some b)) (.int .i64 x) false).run P w = .ok ((f x).getD z) w := by
  obtain ⟨es, clock, hb, kv, hkv, hf⟩ := h
  unfold Instr.lookup Instr.findKey
  rw [Sem.run_bind, run_underlying T.ht]
  simp only [Result.andThen_ok, Sem.run_bind, MapKept.run_getObj_map hb, Sem.run_pure, run_check_I T, run_underlying T.hk]
  rcases find_I .i64 x z es.toList kv 0 hkv with ⟨h1, h2⟩ | ⟨j, u, h1, h2, _⟩
  · rw [h2, ← hf, h1]
    simp [Sem.run_bind, Sem.run_pure, T.hz]
  · rw [h1, ← hf, h2]
    simp [Sem.run_bind, Sem.run_pure]
theorem run_update_I (T : MapT P t k e z) (h : MapI w b f) (x : Int) (v : Value) :
    ∃ w', (Instr.mapUpdate t (.map (some b)) (.int .i64 x) v).run P w = .ok () w' ∧ MapI w' b (fun y => if y = x then some v else f y) ∧ w.grownBy w' (some b) := by
  obtain ⟨es, clock, hb, kv, hkv, hf⟩ := h
  have hlt := (Array.getElem?_eq_some_iff.1 hb).1
  have hgr : ∀ o : Obj, w.grownBy { w with heap := w.heap.setIfInBounds b o } (some b) := fun o => ⟨rfl, rfl, rfl, by simp, fun k hk hne => by
    simp only [Array.getElem?_setIfInBounds]
    rw [if_neg (fun e => hne (by rw [e]))]⟩
  have hrun : ∀ o : Obj, (setObj b o).run P w = .ok () { w with heap := w.heap.setIfInBounds b o } := fun o => MapKept.run_setObj_map _ hb
  rcases find_I .i64 x v es.toList kv 0 hkv with ⟨h1, h2⟩ | ⟨j, u, h1, h2, h3, h4⟩
  · refine ⟨_, ?_, ⟨es.push { key := .int .i64 x, val := v, born := clock }, clock + 1, ?_, kv ++ [(x, v)], ?_, ?_⟩, hgr (.map (es.push { key := .int .i64 x, val := v, born := clock }) (clock + 1))⟩
    · unfold Instr.mapUpdate Instr.findKey
      rw [Sem.run_bind, run_underlying T.ht]
      simp only [Result.andThen_ok, Sem.run_bind, MapKept.run_getObj_map hb, run_check_I T, run_underlying T.hk, h2, Sem.run_pure]
      exact hrun _
    · simp [hlt]
    · simp [hkv, ekv, pkv]
    · intro y; rw [lookI_push _ _ _ _ h1, hf]
  · have hsame : ∀ x : Int, Instr.sameBits 10000 (.int .i64 x) (.int .i64 x) = true := fun x => by simp [Instr.sameBits]
    refine ⟨_, ?_, ⟨es.modify j fun e => { e with key := .int .i64 x, val := v }, clock, ?_, updI x v kv, ?_, ?_⟩, hgr (.map (es.modify j fun e => { e with key := .int .i64 x, val := v }) clock)⟩
    · unfold Instr.mapUpdate Instr.findKey
      rw [Sem.run_bind, run_underlying T.ht]
      simp only [Result.andThen_ok, Sem.run_bind, MapKept.run_getObj_map hb, run_check_I T, run_underlying T.hk, h1, Sem.run_pure, Nat.zero_add]
      have h3' : (Option.map (fun x => x.key) es[j]?).getD (Value.int .i64 x) = .int .i64 x := by
        rw [show es[j]? = es.toList[j]? by simp, h3]; rfl
      rw [h3']
      unfold Instr.keyThatStays
      rw [hsame]
      simp only [if_true, Sem.run_pure, Result.andThen_ok]
      exact hrun _
    · simp [hlt]
    · rw [Array.toList_modify]; exact h4
    · intro y; rw [lookI_upd _ _ _ _ (by rw [h2]; simp), hf]
theorem run_clear_I (T : MapT P t k e z) (ty : TypeId) (h : MapI w b f) : ∃ w', (Builtin.clear_ #[t] ty #[.map (some b)]).run P w = .ok (.tuple #[]) w' ∧ MapI w' b (fun _ => none) ∧ w.grownBy w' (some b) := by
  obtain ⟨es, clock, hb, kv, hkv, hf⟩ := h
  have hlt := (Array.getElem?_eq_some_iff.1 hb).1
  refine ⟨{ w with heap := w.heap.setIfInBounds b (.map #[] clock) }, ?_, ⟨#[], clock, by simp [hlt], [], rfl, fun _ => rfl⟩, ⟨rfl, rfl, rfl, by simp, fun k hk hne => by
    simp only [Array.getElem?_setIfInBounds]
    rw [if_neg (fun e => hne (by rw [e]))]⟩⟩
  unfold Builtin.clear_
  simp only [List.getElem?_toArray, List.getElem?_cons_zero]
  rw [Sem.run_bind, run_underlying T.ht]
  simp only [Result.andThen_ok, Sem.run_bind, MapKept.run_getObj_map hb, MapKept.run_setObj_map _ hb, Sem.run_pure]
variable {ops : Array Oper} {rest : List Oper} {o : Oper} {a : Act} {Q : Exit → Act → World → Prop}
theorem wpList_lookI (T : MapT P t k e z) (m x : Operand) (hop : o.op = .lookup t m x false) (hw : Region.wanted o (yielded ops a.tmps) = true) (hm : a.eval m = .map (some b)) (y : Int) (hx : a.eval x = .int .i64 y) (h : MapI w b f)
    {v : Value} (hv : (f y).getD z = v) (hK : wpList P ops Q rest (a.put o.dst v) w) : wpList P ops Q (o :: rest) a w := by
  subst hv
  refine wpList_ran hw (w' := w) ?_ hK
  unfold execOp
  simp [hop, hm, hx, run_lookup_I T h]
theorem wpList_updI (T : MapT P t k e z) (m x v : Operand) (hop : o.op = .mapUpdate t m x v) (hw : Region.wanted o (yielded ops a.tmps) = true) (hm : a.eval m = .map (some b)) (y : Int) (hx : a.eval x = .int .i64 y) (u : Value) (hv : a.eval v = u) (h : MapI w b f)
    (hK : ∀ w', MapI w' b (fun z => if z = y then some u else f z) → w.grownBy w' (some b) → wpList P ops Q rest (a.put o.dst undef) w') : wpList P ops Q (o :: rest) a w := by
  obtain ⟨w', h1, h2, h3⟩ := run_update_I T h y u
  refine wpList_ran_skip hw (w' := w') ?_ (hK w' h2 h3)
  unfold execOp
  simp [hop, hm, hx, hv, h1]
theorem wpList_clearI (T : MapT P t k e z) (m : Operand) (hop : o.op = .call { callee := .builtin .clear, args := #[m], argTypes := #[t] }) (hw : Region.wanted o (yielded ops a.tmps) = true) (hm : a.eval m = .map (some b)) (h : MapI w b f)
    (hK : ∀ w', MapI w' b (fun _ => none) → w.grownBy w' (some b) → wpList P ops Q rest (a.put o.dst (.tuple #[])) w') : wpList P ops Q (o :: rest) a w := by
  obtain ⟨w', h1, h2, h3⟩ := run_clear_I T o.type h
  refine wpList_ran hw (w' := w') ?_ (hK w' h2 h3)
  unfold execOp
  simp only [hop, resolve, invoke, builtin, Sem.run_bind, Sem.run_pure, Result.andThen_ok, List.map_toArray, List.map_cons, List.map_nil, hm, h1]
end
end Go.BW

