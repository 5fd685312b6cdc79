/- Lemmas that turn a slice of numbers that came in into the words of the library; each under the premises that it states. -/
import Derived.Test.YtbgdpcffbihhaaaRows
import Derived.Test.YtbgdpcffbihhaaaLib
import Derived.OpenShut
import Derived.ShutString
import Derived.ChangeOld
import Derived.Below
/-! what the rows' frames lean on -/
namespace Go.BW
open Go.RowKit Go.ChangeShapes Go.WideShapes

theorem add_lit (b off j : Nat) : (⟨b, off, none⟩ : Addr).add j = ⟨b, off + j, none⟩ := by unfold Addr.add; split <;> simp_all

/-- a row of numbers that came in, as my words have it -/
theorem rd_of_row {k : IntKind} {w : World} {B : Nat} {x : Addr} {len cap : Nat} {zs : List Int} (hB : x.block < B) (hl : len ≤ cap) (hz : zs.length = cap) (hcell : ∀ i, i < zs.length → w.cell? (x.add i) = some (.int k (zs.getD i 0))) :
    Rd w B 1 (some x) len ((zs.take len).map (Value.int k)) := by
  refine ⟨by simp; omega, fun hn => ?_⟩
  obtain ⟨b, off, spot⟩ := x
  have h0 := hcell 0 (by omega)
  have hspot : spot = none := by simpa [Addr.add] using World.cell?_spot h0
  subst hspot
  refine ⟨b, off, rfl, hB, fun j u hu => ?_⟩
  rw [List.getElem?_map, List.getElem?_take] at hu
  split at hu
  · next hj =>
    have hc := hcell j (by omega)
    rw [add_lit, List.getD_eq_getElem?_getD] at hc
    rw [List.getElem?_eq_getElem (by omega)] at hu hc
    simp only [Option.map_some, Option.some.injEq] at hu
    rw [hc, ← hu]
    rfl
  · cases hu
theorem map_bv (zs : List Int) (h : ∀ n ∈ zs, (Lit.int .u8 n).wf = true) : zs.map (Value.int .u8) = (zs.map fun z => UInt8.ofNat z.toNat).map bv := by
  rw [List.map_map]
  apply List.map_congr_left
  intro z hz
  have := bounds_u8 (h z hz)
  simp only [Function.comp, bv]
  congr 1
  simp
  omega
theorem map_iv (zs : List Int) : zs.map (Value.int .i64) = zs.map iv := rfl
/-- a row that came in: the slice [n:cap] is forgotten -/
def InB (w : World) (A : Option Addr) (n c : Nat) (bs : List UInt8) : Prop := Rd w w.heap.size 1 A n (bs.map bv) ∧ n ≤ c ∧ c ≤ maxLen ∧ bs.length = n
def InI (w : World) (A : Option Addr) (n c : Nat) (zs : List Int) : Prop := Rd w w.heap.size 1 A n (zs.map iv) ∧ n ≤ c ∧ c ≤ maxLen ∧ zs.length = n ∧ ∀ z ∈ zs, -9223372036854775808 ≤ z ∧ z ≤ 9223372036854775807
theorem inB_nil {w : World} : InB w none 0 0 [] := ⟨Rd.nil, by omega, by unfold maxLen; omega, rfl⟩
theorem inI_nil {w : World} : InI w none 0 0 [] := ⟨Rd.nil, by omega, by unfold maxLen; omega, rfl, by simp⟩
theorem inB_row {w : World} {x : Addr} {len cap : Nat} {zs : List Int} (hB : 0 < cap → x.block < w.heap.size) (hl : len ≤ cap) (hm : cap ≤ maxLen) (hz : zs.length = cap)
    (hcell : ∀ i, i < zs.length → w.cell? (x.add i) = some (.int .u8 (zs.getD i 0))) (hw : ∀ n ∈ zs, (Lit.int .u8 n).wf = true) : ∃ bs, InB w (some x) len cap bs := by
  refine ⟨(zs.take len).map fun z => UInt8.ofNat z.toNat, ?_, hl, hm, by simp; omega⟩
  rw [← map_bv _ (fun n hn => hw n (List.mem_of_mem_take hn))]
  rcases Nat.eq_zero_or_pos cap with h0 | h0
  · have : len = 0 := by omega
    subst this
    exact ⟨by simp, fun h => absurd h (by omega)⟩
  · exact rd_of_row (hB h0) hl hz hcell
theorem inI_row {w : World} {x : Addr} {len cap : Nat} {zs : List Int} (hB : 0 < cap → x.block < w.heap.size) (hl : len ≤ cap) (hm : cap ≤ maxLen) (hz : zs.length = cap)
    (hcell : ∀ i, i < zs.length → w.cell? (x.add i) = some (.int .i64 (zs.getD i 0))) (hw : ∀ n ∈ zs, (Lit.int .i64 n).wf = true) : ∃ is, InI w (some x) len cap is := by
  refine ⟨zs.take len, ?_, hl, hm, by simp; omega, fun z hz => bounds_i64 (hw z (List.mem_of_mem_take hz))⟩
  rcases Nat.eq_zero_or_pos cap with h0 | h0
  · have : len = 0 := by omega
    subst this
    exact ⟨by simp, fun h => absurd h (by omega)⟩
  · exact rd_of_row (hB h0) hl hz hcell
theorem block_of_cell {w : World} {x : Addr} {v : Value} (h : w.cell? (x.add 0) = some v) : x.block < w.heap.size := by
  have := World.block_lt_of_cell? w _ h
  simpa [Addr.add] using this
end Go.BW
