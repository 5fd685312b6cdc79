/- Lemmas that turn a slice of numbers that came in into the words of the library; each under the premises that it states. -/
import Derived.Test.YtobifmndpkjlmaaRows
import Derived.Test.YtobifmndpkjlmaaJA
import Derived.OpenShut
import Derived.ShutString
import Derived.ChangeOld
import Derived.Below
import Derived.Deep.Slices
set_option linter.unusedVariables false
set_option linter.unusedSimpArgs false
/- Lemmas that turn a slice of numbers that came in into the words of the library; each under the premises that it states. -/
/-! what the rows' frames lean on -/
namespace Go.BW
open Go.RowKit Go.ChangeShapes Go.WideShapes

theorem add_lit (b off j : Nat) : (⟨b, off, none⟩ : Addr).add j = ⟨b, off + j, none⟩ := by unfold Addr.add; split <;> simp_all

theorem addr_add_add (a : Addr) (i j : Nat) : (a.add i).add j = a.add (i + j) := by
  unfold Addr.add
  by_cases hi : i = 0 <;> by_cases hj : j = 0 <;> simp [hi, hj, Nat.add_assoc]
/-- a row of numbers that came in, as my words have it -/
theorem rd_of_row {k : IntKind} {w : World} {B : Nat} {x : Addr} {len cap : Nat} {zs : List Int} (hB : x.block < B) (hl : len ≤ cap) (hz : zs.length = cap) (hcell : ∀ i, i < zs.length → w.cell? (x.add i) = some (.int k (zs.getD i 0))) :
    Rd w B 1 (some x) len ((zs.take len).map (Value.int k)) := by
  refine ⟨by simp; omega, fun hn => ?_⟩
  obtain ⟨b, off, spot⟩ := x
  have h0 := hcell 0 (by omega)
  have hspot : spot = none := by simpa [Addr.add] using World.cell?_spot h0
  subst hspot
  refine ⟨b, off, rfl, hB, fun j u hu => ?_⟩
  rw [List.getElem?_map, List.getElem?_take] at hu
  split at hu
  · next hj =>
    have hc := hcell j (by omega)
    rw [add_lit, List.getD_eq_getElem?_getD] at hc
    rw [List.getElem?_eq_getElem (by omega)] at hu hc
    simp only [Option.map_some, Option.some.injEq] at hu
    rw [hc, ← hu]
    rfl
  · cases hu
theorem map_bv (zs : List Int) (h : ∀ n ∈ zs, (Lit.int .u8 n).wf = true) : zs.map (Value.int .u8) = (zs.map fun z => UInt8.ofNat z.toNat).map bv := by
  rw [List.map_map]
  apply List.map_congr_left
  intro z hz
  have := bounds_u8 (h z hz)
  simp only [Function.comp, bv]
  congr 1
  simp
  omega
theorem map_iv (zs : List Int) : zs.map (Value.int .i64) = zs.map iv := rfl
/-- a row that came in: the slice [n:cap] is forgotten -/
def InB (w : World) (A : Option Addr) (n c : Nat) (bs : List UInt8) : Prop := Rd w w.heap.size 1 A n (bs.map bv) ∧ n ≤ c ∧ c ≤ maxLen ∧ bs.length = n
def InI (w : World) (A : Option Addr) (n c : Nat) (zs : List Int) : Prop := Rd w w.heap.size 1 A n (zs.map iv) ∧ n ≤ c ∧ c ≤ maxLen ∧ zs.length = n ∧ ∀ z ∈ zs, -9223372036854775808 ≤ z ∧ z ≤ 9223372036854775807
theorem inB_nil {w : World} : InB w none 0 0 [] := ⟨Rd.nil, by omega, by unfold maxLen; omega, rfl⟩
theorem inI_nil {w : World} : InI w none 0 0 [] := ⟨Rd.nil, by omega, by unfold maxLen; omega, rfl, by simp⟩
theorem inB_row {w : World} {x : Addr} {len cap : Nat} {zs : List Int} (hB : 0 < cap → x.block < w.heap.size) (hl : len ≤ cap) (hm : cap ≤ maxLen) (hz : zs.length = cap)
    (hcell : ∀ i, i < zs.length → w.cell? (x.add i) = some (.int .u8 (zs.getD i 0))) (hw : ∀ n ∈ zs, (Lit.int .u8 n).wf = true) : ∃ bs, InB w (some x) len cap bs := by
  refine ⟨(zs.take len).map fun z => UInt8.ofNat z.toNat, ?_, hl, hm, by simp; omega⟩
  rw [← map_bv _ (fun n hn => hw n (List.mem_of_mem_take hn))]
  rcases Nat.eq_zero_or_pos cap with h0 | h0
  · have : len = 0 := by omega
    subst this
    exact ⟨by simp, fun h => absurd h (by omega)⟩
  · exact rd_of_row (hB h0) hl hz hcell
theorem inI_row {w : World} {x : Addr} {len cap : Nat} {zs : List Int} (hB : 0 < cap → x.block < w.heap.size) (hl : len ≤ cap) (hm : cap ≤ maxLen) (hz : zs.length = cap)
    (hcell : ∀ i, i < zs.length → w.cell? (x.add i) = some (.int .i64 (zs.getD i 0))) (hw : ∀ n ∈ zs, (Lit.int .i64 n).wf = true) : ∃ is, InI w (some x) len cap is := by
  refine ⟨zs.take len, ?_, hl, hm, by simp; omega, fun z hz => bounds_i64 (hw z (List.mem_of_mem_take hz))⟩
  rcases Nat.eq_zero_or_pos cap with h0 | h0
  · have : len = 0 := by omega
    subst this
    exact ⟨by simp, fun h => absurd h (by omega)⟩
  · exact rd_of_row (hB h0) hl hz hcell
theorem block_of_cell {w : World} {x : Addr} {v : Value} (h : w.cell? (x.add 0) = some v) : x.block < w.heap.size := by
  have := World.block_lt_of_cell? w _ h
  simpa [Addr.add] using this
end Go.BW
namespace Go.BW
open Go.RowKit Go.ChangeShapes Go.WideShapes Go.Deep
def byteAt (w : World) (b off p : Nat) : UInt8 := match w.cell? ⟨b, off + p, none⟩ with | some (.int _ n) => UInt8.ofNat n.toNat | _ => 0
/-- a row of cells each of which is a byte -/
theorem rd_bytes {w : World} {B b off n size : Nat} (hB : b < B) (h : ∀ p, p < n * size → ∃ x : UInt8, w.cell? ⟨b, off + p, none⟩ = some (bv x)) : ∃ bs : List UInt8, Rd w B size (some ⟨b, off, none⟩) n (bs.map bv) := by
  refine ⟨(List.range (n * size)).map (byteAt w b off), by simp, fun _ => ⟨b, off, rfl, hB, fun j u hu => ?_⟩⟩
  rw [List.getElem?_map, List.getElem?_map] at hu
  by_cases hj : j < n * size
  · rw [List.getElem?_range hj] at hu
    simp only [Option.map_some, Option.some.injEq] at hu
    obtain ⟨x, hx⟩ := h j hj
    rw [hx, ← hu]
    unfold byteAt
    rw [hx]
    simp [bv]
  · rw [List.getElem?_eq_none (by simpa using hj)] at hu
    cases hu
/-- a slice of arrays of bytes that came in -/
def InS (w : World) (A : Option Addr) (n c : Nat) (bs : List UInt8) : Prop := Rd w w.heap.size 64 A n (bs.map bv) ∧ n ≤ c ∧ c ≤ maxLen
theorem inS_open {H : Type} {enc : TypeId × Value → H} {P : Program} {w : World} {base : Nat} {spare : Nat → Bool} {held : Bool} {fuel : Nat} {x : DataW H × List MemPlace} {t e e8 : TypeId} {a : Option Addr} {len cap : Nat}
    (ht : P.underlying t = some (.slice e)) (he : P.underlying e = some (.array 64 e8)) (h8 : P.underlying e8 = some (.int .u8)) (hc : P.cellsOf e = 64) (hc8 : P.cellsOf e8 = 1)
    (h : DataW.trod enc P w base spare held fuel t [.slice a len cap] = some x) : ∃ bs, InS w a len cap bs := by
  rcases open_slice ht h with ⟨hcs, _⟩ | ⟨ad, len', cap', m, n, D, Pl, hcs, _, hl, hm, hmm, _, hx⟩
  · simp only [List.cons.injEq, Value.slice.injEq, and_true] at hcs
    obtain ⟨rfl, rfl, rfl⟩ := hcs
    exact ⟨[], Rd.nil, by omega, by unfold maxLen; omega⟩
  · simp only [List.cons.injEq, Value.slice.injEq, and_true] at hcs
    obtain ⟨rfl, rfl, rfl⟩ := hcs
    have hml : len ≤ m := by rw [hmm]; split <;> omega
    have key : ∀ i, i < len → ∀ j, j < 64 → ∃ y : UInt8, w.cell? (ad.add (i * 64 + j)) = some (bv y) := by
      intro i hi j hj
      obtain ⟨cs, h1, h2⟩ := hx i (by omega)
      rw [hc] at h1
      obtain ⟨_, hcl, hce⟩ := World.cells?_some h1
      obtain ⟨xs, k, _, _, _, hxl, hxs⟩ := DataW.trod_array he h2
      have h3 := hxs j hj
      rw [hc8, Nat.mul_one, List.getElem?_eq_getElem (by omega)] at h3
      obtain ⟨z, hz, _, hw⟩ := DataW.trod_int h8 h3
      have hb := bounds_u8 hw
      have h4 : cs[j]? = some (.int .u8 z) := by
        have : ((cs.drop j).take 1)[0]? = some (.int .u8 z) := by rw [hz]; rfl
        rw [List.getElem?_take, if_pos (by omega), List.getElem?_drop] at this
        simpa using this
      have h5 := hce j hj
      rw [h4, addr_add_add] at h5
      refine ⟨UInt8.ofNat z.toNat, h5.trans ?_⟩
      unfold bv
      congr 2
      simp
      omega
    rcases Nat.eq_zero_or_pos len with h0 | h0
    · subst h0
      exact ⟨[], ⟨rfl, fun h => absurd h (by omega)⟩, hl, hm⟩
    · obtain ⟨b, off, spot⟩ := ad
      obtain ⟨y, hy⟩ := key 0 h0 0 (by omega)
      have hspot : spot = none := by simpa [Addr.add] using World.cell?_spot hy
      subst hspot
      have hB : b < w.heap.size := World.block_lt_of_cell? w _ hy
      obtain ⟨bs, hbs⟩ := rd_bytes (w := w) (B := w.heap.size) (b := b) (off := off) (n := len) (size := 64) hB (fun p hp => by
        obtain ⟨y, hy⟩ := key (p / 64) (by omega) (p % 64) (by omega)
        rw [add_lit, show p / 64 * 64 + p % 64 = p by omega] at hy
        exact ⟨y, hy⟩)
      exact ⟨bs, hbs, hl, hm⟩
end Go.BW


/- Slices of any flat elements that came in, as the library's words have them; under the premises that each lemma states. -/
namespace Go.BW
open Go.RowKit Go.ChangeShapes Go.WideShapes Go.Deep
theorem rd_cells {w : World} {B b off size : Nat} (hB : b < B) : ∀ (l : List (List Value)), (∀ cs ∈ l, cs.length = size) → (∀ (i : Nat) cs, l[i]? = some cs → ∀ j u, cs[j]? = some u → w.cell? ⟨b, off + (i * size + j), none⟩ = some u) →
    Rd w B size (some ⟨b, off, none⟩) l.length l.flatten := by
  intro l hl hc
  have hlen : ∀ (l : List (List Value)), (∀ cs ∈ l, cs.length = size) → l.flatten.length = l.length * size := by
    intro l
    induction l with
    | nil => intro _; simp
    | cons a l ih =>
      intro h
      rw [List.flatten_cons, List.length_append, ih (fun cs hc => h cs (List.mem_cons_of_mem _ hc)), h a (List.mem_cons_self ..), List.length_cons, Nat.succ_mul]
      omega
  refine ⟨hlen l hl, fun hn => ⟨b, off, rfl, hB, ?_⟩⟩
  clear hlen hn
  induction l generalizing off with
  | nil => intro j u hu; simp at hu
  | cons a l ih =>
    intro j u hu
    have ha := hl a (List.mem_cons_self ..)
    rw [List.flatten_cons] at hu
    by_cases hj : j < size
    · rw [List.getElem?_append_left (by omega)] at hu
      have := hc 0 a rfl j u hu
      simpa using this
    · rw [List.getElem?_append_right (by omega), ha] at hu
      have := ih (off := off + size) (fun cs h => hl cs (List.mem_cons_of_mem _ h)) (fun i cs hi j u hu => by
        have := hc (i + 1) cs (by simpa using hi) j u hu
        rw [Nat.succ_mul] at this
        rw [← this]; congr 2; omega) (j - size) u hu
      rw [← this]; congr 2; omega
/-- a slice that came in, of elements each of which is E -/
theorem slice_open {H : Type} {enc : TypeId × Value → H} {P : Program} {w : World} {base : Nat} {spare : Nat → Bool} {held : Bool} {fuel : Nat} {x : DataW H × List MemPlace} {t e : TypeId} {a : Option Addr} {len cap : Nat} {size : Nat} {E : List Value → Prop}
    (ht : P.underlying t = some (.slice e)) (hs : P.cellsOf e = size) (hs0 : 0 < size) (hE : ∀ (n : Nat) (cs : List Value) (x : DataW H × List MemPlace), DataW.trod enc P w base spare held n e cs = some x → E cs)
    (h : DataW.trod enc P w base spare held fuel t [.slice a len cap] = some x) :
    ∃ l : List (List Value), l.length = len ∧ (∀ cs ∈ l, E cs ∧ cs.length = size) ∧ Rd w w.heap.size size a len l.flatten ∧ len ≤ cap ∧ cap ≤ maxLen := by
  rcases open_slice ht h with ⟨hcs, _⟩ | ⟨ad, len', cap', m, n, D, Pl, hcs, _, hl, hm, hmm, _, hx⟩
  · simp only [List.cons.injEq, Value.slice.injEq, and_true] at hcs
    obtain ⟨rfl, rfl, rfl⟩ := hcs
    exact ⟨[], rfl, by simp, Rd.nil, by omega, by unfold maxLen; omega⟩
  · simp only [List.cons.injEq, Value.slice.injEq, and_true] at hcs
    obtain ⟨rfl, rfl, rfl⟩ := hcs
    have hml : len ≤ m := by rw [hmm]; split <;> omega
    rcases Nat.eq_zero_or_pos len with h0 | h0
    · subst h0
      exact ⟨[], rfl, by simp, ⟨by simp, fun h => absurd h (by omega)⟩, hl, hm⟩
    · have key : ∀ i, i < len → ∃ cs, E cs ∧ cs.length = size ∧ ∀ j, j < size → w.cell? (ad.add (i * size + j)) = cs[j]? := by
        intro i hi
        obtain ⟨cs, h1, h2⟩ := hx i (by omega)
        rw [hs] at h1
        obtain ⟨_, hcl, hce⟩ := World.cells?_some h1
        refine ⟨cs, hE _ _ _ h2, hcl, fun j hj => ?_⟩
        have h5 := hce j hj
        rwa [addr_add_add] at h5
      obtain ⟨V, hV⟩ := choose_lt (α := List Value) (p := fun i cs => E cs ∧ cs.length = size ∧ ∀ j, j < size → w.cell? (ad.add (i * size + j)) = cs[j]?) key
      obtain ⟨b, off, spot⟩ := ad
      have h00 := (hV 0 h0).2.2 0 hs0
      rw [List.getElem?_eq_getElem (by rw [(hV 0 h0).2.1]; exact hs0)] at h00
      have hspot : spot = none := by simpa [Addr.add] using World.cell?_spot h00
      subst hspot
      have hB : b < w.heap.size := by have := World.block_lt_of_cell? w _ h00; simpa [Addr.add] using this
      refine ⟨(List.range len).map V, by simp, fun cs hcs => ?_, ?_, hl, hm⟩
      · obtain ⟨i, hi, rfl⟩ := List.mem_map.1 hcs
        have := hV i (List.mem_range.1 hi)
        exact ⟨this.1, this.2.1⟩
      · have := rd_cells (w := w) (B := w.heap.size) (b := b) (off := off) (size := size) hB ((List.range len).map V) (fun cs hcs => by
          obtain ⟨i, hi, rfl⟩ := List.mem_map.1 hcs
          exact (hV i (List.mem_range.1 hi)).2.1) (fun i cs hi j u hu => by
          rw [List.getElem?_map] at hi
          obtain ⟨k, hk, rfl⟩ := Option.map_eq_some_iff.1 hi
          have hil : i < len := by have := (List.getElem?_eq_some_iff.1 hk).1; simpa using this
          rw [List.getElem?_range hil] at hk
          injection hk with hk
          subst hk
          have hv := hV i hil
          have hj : j < size := by have := (List.getElem?_eq_some_iff.1 hu).1; omega
          have := hv.2.2 j hj
          rw [add_lit] at this
          rw [this, hu])
        simpa using this
/-- elements of a shape, as their values -/
theorem shape_list {α : Type} (ok : α → Prop) (enc : α → List Value) : ∀ (l : List (List Value)), (∀ cs ∈ l, ∃ o, ok o ∧ cs = enc o) → ∃ os : List α, l = os.map enc ∧ ∀ o ∈ os, ok o
  | [], _ => ⟨[], rfl, by simp⟩
  | cs :: l, h => by
    obtain ⟨o, ho, rfl⟩ := h cs (List.mem_cons_self ..)
    obtain ⟨os, rfl, h2⟩ := shape_list ok enc l fun c hc => h c (List.mem_cons_of_mem _ hc)
    exact ⟨o :: os, rfl, by simpa using ⟨ho, h2⟩⟩
/-- .. as the words have it: n elements of 'size' cells, the values os -/
def InL {α : Type} (w : World) (enc : α → List Value) (size : Nat) (ok : α → Prop) (A : Option Addr) (n c : Nat) (os : List α) : Prop :=
  Rd w w.heap.size size A n (os.map enc).flatten ∧ n ≤ c ∧ c ≤ maxLen ∧ os.length = n ∧ ∀ o ∈ os, ok o
theorem inL_open {H α : Type} {enc : TypeId × Value → H} {P : Program} {w : World} {base : Nat} {spare : Nat → Bool} {held : Bool} {fuel : Nat} {x : DataW H × List MemPlace} {t e : TypeId} {a : Option Addr} {len cap : Nat} {size : Nat} {ok : α → Prop} {en : α → List Value}
    (ht : P.underlying t = some (.slice e)) (hs : P.cellsOf e = size) (hs0 : 0 < size) (hE : ∀ (n : Nat) (cs : List Value) (x : DataW H × List MemPlace), DataW.trod enc P w base spare held n e cs = some x → ∃ o, ok o ∧ cs = en o)
    (h : DataW.trod enc P w base spare held fuel t [.slice a len cap] = some x) : ∃ os, InL w en size ok a len cap os := by
  obtain ⟨l, h1, h2, h3, h4, h5⟩ := slice_open ht hs hs0 hE h
  obtain ⟨os, rfl, h6⟩ := shape_list ok en l fun cs hc => (h2 cs hc).1
  exact ⟨os, h3, h4, h5, by simpa using h1, h6⟩
theorem flat1 {α : Type} (f : α → Value) (l : List α) : (l.map fun x => [f x]).flatten = l.map f := by
  induction l with
  | nil => rfl
  | cons a l ih => simp [ih]
section
variable {H : Type} {enc : TypeId × Value → H} {P : Program} {w : World} {base : Nat} {spare : Nat → Bool} {held : Bool} {fuel : Nat} {x : DataW H × List MemPlace} {t e : TypeId} {a : Option Addr} {len cap : Nat} {cs : List Value}
/-- an array of bytes -/
theorem bytes_open {N : Nat} (he : P.underlying t = some (.array N e)) (h8 : P.underlying e = some (.int .u8)) (hc : P.cellsOf t = N) (hc8 : P.cellsOf e = 1) (h : DataW.trod enc P w base spare held fuel t cs = some x) : ∃ bs : List UInt8, bs.length = N ∧ cs = bs.map bv := by
  obtain ⟨xs, k, _, _, hcl, hxl, hxs⟩ := DataW.trod_array he h
  rw [hc] at hcl
  have key : ∀ j, j < N → ∃ y : UInt8, cs[j]? = some (bv y) := by
    intro j hj
    have h3 := hxs j hj
    rw [hc8, Nat.mul_one, List.getElem?_eq_getElem (by omega)] at h3
    obtain ⟨z, hz, _, hw⟩ := DataW.trod_int h8 h3
    have hb := bounds_u8 hw
    have h4 : cs[j]? = some (.int .u8 z) := by
      have : ((cs.drop j).take 1)[0]? = some (.int .u8 z) := by rw [hz]; rfl
      rw [List.getElem?_take, if_pos (by omega), List.getElem?_drop] at this
      simpa using this
    refine ⟨UInt8.ofNat z.toNat, h4.trans ?_⟩
    unfold bv
    congr 2
    simp
    omega
  obtain ⟨V, hV⟩ := choose_lt (α := UInt8) (p := fun j y => cs[j]? = some (bv y)) key
  refine ⟨(List.range N).map V, by simp, List.ext_getElem? fun j => ?_⟩
  by_cases hj : j < N
  · rw [hV j hj]; simp [hj]
  · rw [List.getElem?_eq_none (by omega), List.getElem?_eq_none (by simpa using hj)]
/-- a field of a struct -/
theorem field_open {fs : Array Field} (ht : P.underlying t = some (.struct fs)) (h : DataW.trod enc P w base spare held fuel t cs = some x) (i : Nat) (f : Field) (hf : fs[i]? = some f) :
    ∃ n y, DataW.trod enc P w base spare held n f.type ((cs.drop f.offset).take (P.cellsOf f.type)) = some y := by
  obtain ⟨xs, n, _, _, _, hxl, hall⟩ := DataW.trod_struct ht h
  have h1 := hall i f hf
  have hi := (Array.getElem?_eq_some_iff.1 hf).1
  rw [List.getElem?_eq_getElem (by omega)] at h1
  exact ⟨n, _, h1⟩
theorem struct_len {fs : Array Field} (ht : P.underlying t = some (.struct fs)) (h : DataW.trod enc P w base spare held fuel t cs = some x) : cs.length = P.cellsOf t := by
  obtain ⟨xs, n, _, _, hl, _, _⟩ := DataW.trod_struct ht h
  exact hl
theorem int_open (ht : P.underlying t = some (.int .i64)) (h : DataW.trod enc P w base spare held fuel t cs = some x) : ∃ z : Int, cs = [iv z] ∧ -9223372036854775808 ≤ z ∧ z ≤ 9223372036854775807 := by
  obtain ⟨z, hz, _, hw⟩ := DataW.trod_int ht h
  exact ⟨z, hz, bounds_i64 hw⟩
theorem bools_open (ht : P.underlying t = some (.slice e)) (he : P.underlying e = some .bool) (hc : P.cellsOf e = 1) (h : DataW.trod enc P w base spare held fuel t [.slice a len cap] = some x) :
    ∃ os, InL w (fun b : Bool => [Value.bool b]) 1 (fun _ => True) a len cap os :=
  inL_open ht hc (by omega) (fun n cs x h => by obtain ⟨b, hb, _⟩ := DataW.trod_bool he h; exact ⟨b, trivial, hb⟩) h
/-- a struct that came in by value -/
theorem value_open {α : Type} {ok : α → Prop} {en : α → List Value} {ev : α → Value} {fs : Array Field} {r : Reach} {b0 : Nat} {v : Value} {d : DataW H} {ps : List MemPlace} (hu : P.underlying t = some (.struct fs)) (hev : ∀ x cs, cs.toList = en x → Value.agg cs = ev x)
    (hval : Value.okWide P w r b0 t v) (hd : DataW.Trod enc P w base spare held t v d ps) (hE : ∀ (n : Nat) (cs : List Value) (x : DataW H × List MemPlace), DataW.trod enc P w base spare held n t cs = some x → ∃ o, ok o ∧ cs = en o) : ∃ x, ok x ∧ v = ev x := by
  simp only [Value.okWide, hu] at hval
  obtain ⟨cs, rfl, _, _⟩ := hval
  obtain ⟨fuel, hf⟩ := hd
  obtain ⟨o, h1, h2⟩ := hE _ _ _ hf
  exact ⟨o, h1, hev o cs h2⟩
theorem cut3 {l : List Value} {a b c : Value} (hl : l.length = 3) (h0 : (l.drop 0).take 1 = [a]) (h1 : (l.drop 1).take 1 = [b]) (h2 : (l.drop 2).take 1 = [c]) : l = [a, b, c] := by
  match l, hl with
  | [x, y, z], _ => simp at h0 h1 h2; simp [h0, h1, h2]
end
end Go.BW

