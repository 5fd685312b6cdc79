/- Parts of an array as slices: '&a[l:]', '&a[l:h]'; under the premises that each lemma states. -/
import Derived.Test.YtmcgfnfhpcddlaaLib
namespace Go.BW
open Go.RowKit
section
variable {P : Program} (t e : TypeId) (N : Nat) (hu : P.underlying t = some (.array N e)) (hi : (P.info? e).map (·.size) = some 1)
include hu hi
theorem run_arr_part (g l h : Nat) (lo hi' : Option Value) (h0 : l ≤ h) (h1 : h ≤ N) (hlo : lo = some (.int .i64 l) ∨ (lo = none ∧ l = 0)) (hhi : hi' = some (.int .i64 h) ∨ (hi' = none ∧ h = N)) :
    ∀ w' : World, (Instr.sliceAt t (.pointer (some ⟨g, 0, none⟩)) lo hi' none).run P w' = .ok (.slice (some ⟨g, if N = l then 0 else l, none⟩) (h - l) (N - l)) w' := by
  intro w'
  obtain ⟨i, hq, hs⟩ := Option.map_eq_some_iff.1 hi
  have ea : (if N = l then (⟨g, 0, none⟩ : Addr) else (⟨g, 0, none⟩ : Addr).add (l * 1)) = ⟨g, if N = l then 0 else l, none⟩ := by
    rw [Nat.mul_one]; split
    · rfl
    · unfold Addr.add; split <;> simp_all
  have e1 : (l : Int) ≤ h := by omega
  have e2 : (h : Int) ≤ N := by omega
  have e3 : (l : Int) ≤ N := by omega
  rcases hlo with rfl | ⟨rfl, rfl⟩ <;> rcases hhi with rfl | ⟨rfl, rfl⟩ <;>
    simp [Instr.sliceAt, Instr.sureAddr, run_underlying hu, Instr.sliceBounds, run_sliceBound, sizeOf, typeInfo, hq, hs, e1, e2, e3, h0, h1] <;> simpa using ea
theorem run_arr_partO (g o l h : Nat) (lo hi' : Option Value) (h0 : l ≤ h) (h1 : h ≤ N) (hlo : lo = some (.int .i64 l) ∨ (lo = none ∧ l = 0)) (hhi : hi' = some (.int .i64 h) ∨ (hi' = none ∧ h = N)) :
    ∀ w' : World, (Instr.sliceAt t (.pointer (some ⟨g, o, none⟩)) lo hi' none).run P w' = .ok (.slice (some ⟨g, if N = l then o else o + l, none⟩) (h - l) (N - l)) w' := by
  intro w'
  obtain ⟨i, hq, hs⟩ := Option.map_eq_some_iff.1 hi
  have ea : (if N = l then (⟨g, o, none⟩ : Addr) else (⟨g, o, none⟩ : Addr).add (l * 1)) = ⟨g, if N = l then o else o + l, none⟩ := by
    rw [Nat.mul_one]; split
    · rfl
    · unfold Addr.add; split <;> simp_all
  have e1 : (l : Int) ≤ h := by omega
  have e2 : (h : Int) ≤ N := by omega
  have e3 : (l : Int) ≤ N := by omega
  rcases hlo with rfl | ⟨rfl, rfl⟩ <;> rcases hhi with rfl | ⟨rfl, rfl⟩ <;>
    simp [Instr.sliceAt, Instr.sureAddr, run_underlying hu, Instr.sliceBounds, run_sliceBound, sizeOf, typeInfo, hq, hs, e1, e2, e3, h0, h1] <;> simpa using ea
end
theorem rd_partO {w : World} {B b off l h N : Nat} {xs : List Value} (hr : Rd w B 1 (some ⟨b, off, none⟩) N xs) (h0 : l ≤ h) (h1 : h ≤ N) : Rd w B 1 (some ⟨b, if N = l then off else off + l, none⟩) (h - l) ((xs.take h).drop l) := by
  have hl : xs.length = N := by have := hr.1; omega
  refine ⟨by simp; omega, fun hn => ?_⟩
  obtain ⟨b', off', e, hb, hc⟩ := hr.2 (by omega)
  injection e with e; injection e with e1 e2
  subst e1; subst e2
  rw [if_neg (by omega)]
  refine ⟨_, _, rfl, hb, fun j u hu => ?_⟩
  rw [List.getElem?_drop, List.getElem?_take] at hu
  split at hu
  · have := hc _ u hu; rwa [← Nat.add_assoc] at this
  · cases hu
theorem rd_part {w : World} {B g l h N : Nat} {xs : List Value} (hr : Rd w B 1 (some ⟨g, 0, none⟩) N xs) (h0 : l ≤ h) (h1 : h ≤ N) : Rd w B 1 (some ⟨g, if N = l then 0 else l, none⟩) (h - l) ((xs.take h).drop l) := by
  have hl : xs.length = N := by have := hr.1; omega
  refine ⟨by simp; omega, fun hn => ?_⟩
  obtain ⟨b, off, e, hb, hc⟩ := hr.2 (by omega)
  injection e with e; injection e with e1 e2
  subst e1; subst e2
  rw [if_neg (by omega)]
  refine ⟨_, _, rfl, hb, fun j u hu => ?_⟩
  rw [List.getElem?_drop, List.getElem?_take] at hu
  split at hu
  · have := hc _ u hu; rwa [Nat.zero_add] at this
  · cases hu
end Go.BW

