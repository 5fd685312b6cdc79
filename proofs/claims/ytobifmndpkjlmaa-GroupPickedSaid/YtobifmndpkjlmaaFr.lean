/- Lemmas that turn a slice of numbers that came in into the words of the library; each under the premises that it states. -/
import Derived.Test.YtobifmndpkjlmaaRows
import Derived.Test.YtobifmndpkjlmaaLib
import Derived.OpenShut
import Derived.ShutString
import Derived.ChangeOld
import Derived.Below
import Derived.Deep.Slices
/-! what the rows' frames lean on -/
namespace Go.BW
open Go.RowKit Go.ChangeShapes Go.WideShapes

theorem add_lit (b off j : Nat) : (⟨b, off, none⟩ : Addr).add j = ⟨b, off + j, none⟩ := by unfold Addr.add; split <;> simp_all

theorem addr_add_add (a : Addr) (i j : Nat) : (a.add i).add j = a.add (i + j) := by
  unfold Addr.add
  by_cases hi : i = 0 <;> by_cases hj : j = 0 <;> simp [hi, hj, Nat.add_assoc]
/-- a row of numbers that came in, as my words have it -/
theorem rd_of_row {k : IntKind} {w : World} {B : Nat} {x : Addr} {len cap : Nat} {zs : List Int} (hB : x.block < B) (hl : len ≤ cap) (hz : zs.length = cap) (hcell : ∀ i, i < zs.length → w.cell? (x.add i) = some (.int k (zs.getD i 0))) :
    Rd w B 1 (some x) len ((zs.take len).map (Value.int k)) := by
  refine ⟨by simp; omega, fun hn => ?_⟩
  obtain ⟨b, off, spot⟩ := x
  have h0 := hcell 0 (by omega)
  have hspot : spot = none := by simpa [Addr.add] using World.cell?_spot h0
  subst hspot
  refine ⟨b, off, rfl, hB, fun j u hu => ?_⟩
  rw [List.getElem?_map, List.getElem?_take] at hu
  split at hu
  · next hj =>
    have hc := hcell j (by omega)
    rw [add_lit, List.getD_eq_getElem?_getD] at hc
    rw [List.getElem?_eq_getElem (by omega)] at hu hc
    simp only [Option.map_some, Option.some.injEq] at hu
    rw [hc, ← hu]
    rfl
  · cases hu
theorem map_bv (zs : List Int) (h : ∀ n ∈ zs, (Lit.int .u8 n).wf = true) : zs.map (Value.int .u8) = (zs.map fun z => UInt8.ofNat z.toNat).map bv := by
  rw [List.map_map]
  apply List.map_congr_left
  intro z hz
  have := bounds_u8 (h z hz)
  simp only [Function.comp, bv]
  congr 1
  simp
  omega
theorem map_iv (zs : List Int) : zs.map (Value.int .i64) = zs.map iv := rfl
/-- a row that came in: the slice [n:cap] is forgotten -/
def InB (w : World) (A : Option Addr) (n c : Nat) (bs : List UInt8) : Prop := Rd w w.heap.size 1 A n (bs.map bv) ∧ n ≤ c ∧ c ≤ maxLen ∧ bs.length = n
def InI (w : World) (A : Option Addr) (n c : Nat) (zs : List Int) : Prop := Rd w w.heap.size 1 A n (zs.map iv) ∧ n ≤ c ∧ c ≤ maxLen ∧ zs.length = n ∧ ∀ z ∈ zs, -9223372036854775808 ≤ z ∧ z ≤ 9223372036854775807
theorem inB_nil {w : World} : InB w none 0 0 [] := ⟨Rd.nil, by omega, by unfold maxLen; omega, rfl⟩
theorem inI_nil {w : World} : InI w none 0 0 [] := ⟨Rd.nil, by omega, by unfold maxLen; omega, rfl, by simp⟩
theorem inB_row {w : World} {x : Addr} {len cap : Nat} {zs : List Int} (hB : 0 < cap → x.block < w.heap.size) (hl : len ≤ cap) (hm : cap ≤ maxLen) (hz : zs.length = cap)
    (hcell : ∀ i, i < zs.length → w.cell? (x.add i) = some (.int .u8 (zs.getD i 0))) (hw : ∀ n ∈ zs, (Lit.int .u8 n).wf = true) : ∃ bs, InB w (some x) len cap bs := by
  refine ⟨(zs.take len).map fun z => UInt8.ofNat z.toNat, ?_, hl, hm, by simp; omega⟩
  rw [← map_bv _ (fun n hn => hw n (List.mem_of_mem_take hn))]
  rcases Nat.eq_zero_or_pos cap with h0 | h0
  · have : len = 0 := by omega
    subst this
    exact ⟨by simp, fun h => absurd h (by omega)⟩
  · exact rd_of_row (hB h0) hl hz hcell
theorem inI_row {w : World} {x : Addr} {len cap : Nat} {zs : List Int} (hB : 0 < cap → x.block < w.heap.size) (hl : len ≤ cap) (hm : cap ≤ maxLen) (hz : zs.length = cap)
    (hcell : ∀ i, i < zs.length → w.cell? (x.add i) = some (.int .i64 (zs.getD i 0))) (hw : ∀ n ∈ zs, (Lit.int .i64 n).wf = true) : ∃ is, InI w (some x) len cap is := by
  refine ⟨zs.take len, ?_, hl, hm, by simp; omega, fun z hz => bounds_i64 (hw z (List.mem_of_mem_take hz))⟩
  rcases Nat.eq_zero_or_pos cap with h0 | h0
  · have : len = 0 := by omega
    subst this
    exact ⟨by simp, fun h => absurd h (by omega)⟩
  · exact rd_of_row (hB h0) hl hz hcell
theorem block_of_cell {w : World} {x : Addr} {v : Value} (h : w.cell? (x.add 0) = some v) : x.block < w.heap.size := by
  have := World.block_lt_of_cell? w _ h
  simpa [Addr.add] using this
end Go.BW
namespace Go.BW
open Go.RowKit Go.ChangeShapes Go.WideShapes Go.Deep
def byteAt (w : World) (b off p : Nat) : UInt8 := match w.cell? ⟨b, off + p, none⟩ with | some (.int _ n) => UInt8.ofNat n.toNat | _ => 0
/-- a row of cells each of which is a byte -/
theorem rd_bytes {w : World} {B b off n size : Nat} (hB : b < B) (h : ∀ p, p < n * size → ∃ x : UInt8, w.cell? ⟨b, off + p, none⟩ = some (bv x)) : ∃ bs : List UInt8, Rd w B size (some ⟨b, off, none⟩) n (bs.map bv) := by
  refine ⟨(List.range (n * size)).map (byteAt w b off), by simp, fun _ => ⟨b, off, rfl, hB, fun j u hu => ?_⟩⟩
  rw [List.getElem?_map, List.getElem?_map] at hu
  by_cases hj : j < n * size
  · rw [List.getElem?_range hj] at hu
    simp only [Option.map_some, Option.some.injEq] at hu
    obtain ⟨x, hx⟩ := h j hj
    rw [hx, ← hu]
    unfold byteAt
    rw [hx]
    simp [bv]
  · rw [List.getElem?_eq_none (by simpa using hj)] at hu
    cases hu
/-- a slice of arrays of bytes that came in -/
def InS (w : World) (A : Option Addr) (n c : Nat) (bs : List UInt8) : Prop := Rd w w.heap.size 64 A n (bs.map bv) ∧ n ≤ c ∧ c ≤ maxLen
theorem inS_open {H : Type} {enc : TypeId × Value → H} {P : Program} {w : World} {base : Nat} {spare : Nat → Bool} {held : Bool} {fuel : Nat} {x : DataW H × List MemPlace} {t e e8 : TypeId} {a : Option Addr} {len cap : Nat}
    (ht : P.underlying t = some (.slice e)) (he : P.underlying e = some (.array 64 e8)) (h8 : P.underlying e8 = some (.int .u8)) (hc : P.cellsOf e = 64) (hc8 : P.cellsOf e8 = 1)
    (h : DataW.trod enc P w base spare held fuel t [.slice a len cap] = some x) : ∃ bs, InS w a len cap bs := by
  rcases open_slice ht h with ⟨hcs, _⟩ | ⟨ad, len', cap', m, n, D, Pl, hcs, _, hl, hm, hmm, _, hx⟩
  · simp only [List.cons.injEq, Value.slice.injEq, and_true] at hcs
    obtain ⟨rfl, rfl, rfl⟩ := hcs
    exact ⟨[], Rd.nil, by omega, by unfold maxLen; omega⟩
  · simp only [List.cons.injEq, Value.slice.injEq, and_true] at hcs
    obtain ⟨rfl, rfl, rfl⟩ := hcs
    have hml : len ≤ m := by rw [hmm]; split <;> omega
    have key : ∀ i, i < len → ∀ j, j < 64 → ∃ y : UInt8, w.cell? (ad.add (i * 64 + j)) = some (bv y) := by
      intro i hi j hj
      obtain ⟨cs, h1, h2⟩ := hx i (by omega)
      rw [hc] at h1
      obtain ⟨_, hcl, hce⟩ := World.cells?_some h1
      obtain ⟨xs, k, _, _, _, hxl, hxs⟩ := DataW.trod_array he h2
      have h3 := hxs j hj
      rw [hc8, Nat.mul_one, List.getElem?_eq_getElem (by omega)] at h3
      obtain ⟨z, hz, _, hw⟩ := DataW.trod_int h8 h3
      have hb := bounds_u8 hw
      have h4 : cs[j]? = some (.int .u8 z) := by
        have : ((cs.drop j).take 1)[0]? = some (.int .u8 z) := by rw [hz]; rfl
        rw [List.getElem?_take, if_pos (by omega), List.getElem?_drop] at this
        simpa using this
      have h5 := hce j hj
      rw [h4, addr_add_add] at h5
      refine ⟨UInt8.ofNat z.toNat, h5.trans ?_⟩
      unfold bv
      congr 2
      simp
      omega
    rcases Nat.eq_zero_or_pos len with h0 | h0
    · subst h0
      exact ⟨[], ⟨rfl, fun h => absurd h (by omega)⟩, hl, hm⟩
    · obtain ⟨b, off, spot⟩ := ad
      obtain ⟨y, hy⟩ := key 0 h0 0 (by omega)
      have hspot : spot = none := by simpa [Addr.add] using World.cell?_spot hy
      subst hspot
      have hB : b < w.heap.size := World.block_lt_of_cell? w _ hy
      obtain ⟨bs, hbs⟩ := rd_bytes (w := w) (B := w.heap.size) (b := b) (off := off) (n := len) (size := 64) hB (fun p hp => by
        obtain ⟨y, hy⟩ := key (p / 64) (by omega) (p % 64) (by omega)
        rw [add_lit, show p / 64 * 64 + p % 64 = p by omega] at hy
        exact ⟨y, hy⟩)
      exact ⟨bs, hbs, hl, hm⟩
end Go.BW

