/- What slices.Index and slices.Contains of sectors return. -/
import Derived.Test.YtblkdmnfmnbbeaaD
namespace Go.Proofs.Ytblkdmnfmnbbeaa
open Go.RowKit Go.BW

def secAt (bs : List UInt8) (i : Nat) : List UInt8 := (bs.drop (i * 64)).take 64
def hasB (bs s : List UInt8) : Bool := (List.range (bs.length / 64)).any fun i => decide (secAt bs i = s)
theorem hasB_iff (bs s : List UInt8) : hasB bs s = true ↔ ∃ i, i < bs.length / 64 ∧ secAt bs i = s := by
  unfold hasB
  simp [List.any_eq_true]
theorem secAt_len {bs : List UInt8} {n i : Nat} (h : bs.length = n * 64) (hi : i < n) : (secAt bs i).length = 64 := by
  unfold secAt; rw [List.length_take, List.length_drop]; omega
def IndexPost (bs s : List UInt8) (w : World) (e : Ending) (w' : World) : Prop := ∃ v : Int, e = .returned (.int .i64 v) ∧ decide (0 ≤ v) = hasB bs s ∧ Nw w w'
theorem secAt_cell {w : World} {B b off n : Nat} {bs : List UInt8} (h : Rd w B 64 (some ⟨b, off, none⟩) n (bs.map bv)) {i : Nat} (hi : i < n) : ∀ j u, ((secAt bs i).map bv)[j]? = some u → w.cell? ⟨b, off + i * 64 + j, none⟩ = some u := by
  obtain ⟨b', off', e, _, hc⟩ := h.2 (by omega)
  injection e with e
  injection e with e1 e2
  subst e1; subst e2
  intro j u hu
  rw [Nat.add_assoc]
  refine hc (i * 64 + j) u ?_
  unfold secAt at hu
  rw [List.map_take, List.map_drop] at hu
  have hlt := (List.getElem?_eq_some_iff.1 hu).1
  rw [List.getElem?_take, List.getElem?_drop] at hu
  split at hu
  · exact hu
  · cases hu
theorem size_alloc_nw {w w' : World} (h : Nw w w') : w.heap.size ≤ w'.heap.size := h.size
set_option maxHeartbeats 1000000 in
theorem index_any {w : World} {B : Nat} {A : Option Addr} {n c : Nat} {bs s : List UInt8} (h : Rd w B 64 A n (bs.map bv)) (hB : B ≤ w.heap.size) (hn : n ≤ 2000) (hs : s.length = 64) :
    Calls Try.prog 31 #[.slice A n c, sv s] w (IndexPost bs s w) := by
  have hl : bs.length = n * 64 := by have := h.1; simpa using this
  have HL := Lib.hid hl; clear hl
  have HS := Lib.hid hs; clear hs
  have HR := Lib.hid h; clear h
  unfold sv
  go_enter Try.func31, Try.ntmps31
  go_wp2_with fail
  obtain ⟨w1, hw1⟩ : ∃ w1, w1 = w.alloc (.cells (s.map bv).toArray 27) := ⟨_, rfl⟩
  rw [← hw1]
  have n1 : Nw w w1 := by rw [hw1]; exact World.grownBy_alloc w _ none
  have ob : Obj1 w1 w.heap.size 27 (s.map bv).toArray := by rw [hw1]; exact Obj1.new w _ _
  clear hw1
  have N1 := Lib.hid n1; clear n1
  have OB := Lib.hid ob; clear ob
  go_loopw [8] (fun i wr => ∃ k : Nat, k ≤ n ∧ i = .int .i64 k ∧ (∀ j, j < k → secAt bs j ≠ s) ∧ Nw w1 wr) (fun i _ => n - (intOf i).toNat)
  case atStart => exact ⟨0, Nat.zero_le _, rfl, fun j hj => by omega, Nw.refl w1⟩
  case round =>
    obtain ⟨k, hk, rfl, hno, hnw⟩ := hrel
    have HNO := Lib.hid hno; clear hno
    have HNW := Lib.hid hnw; clear hnw
    by_cases hlt : k < n
    · obtain ⟨b, off, rfl, hb, _⟩ := HR.out.2 (by omega)
      go_wp2_with fail
      obtain ⟨q, hq⟩ : ∃ q, decide (s = secAt bs k) = q := ⟨_, rfl⟩
      have HQ := Lib.hid hq; clear hq
      refine wp_region_held (S := (fun w' => Nw w1 w')) (by kernel_rfl) ?_
      change wpAnyH _ _ _ _ _ _ _ _ (World.drew wr)
      refine held_seg' (l := [0, 1, 2, 3, 4, 5]) (fuel := 0) rfl (by kernel_rfl) (by kernel_rfl) (by simp only [List.filterMap_cons, List.filterMap_nil, List.getElem?_toArray, List.getElem?_cons_succ, List.getElem?_cons_zero]; rfl) (fun _ _ d _ _ h => by cases d <;> exact h) (gb_drew HNW.out) ?_
      refine wpYield_load_agg 27 _ rfl rfl rfl (s.map bv) (fun w' hw' j u hu => by rw [Nat.zero_add, (OB.out.nw hw').cell j]; simpa using hu) _ Try.underlying27 rfl (i27.trans (by rw [List.length_map, HS.out])) ?_
      iterate 3 (refine wpYield_step rfl (fun K hK => ?_)
                 apply Exists.intro
                 refine ⟨fun w' hw' => ?_, ?_⟩
                 · (go_simp; try with_reducible rfl)
                 go_simp
                 refine hK _ ?_
                 clear hK K)
      refine wpYield_load_agg 27 _ rfl rfl rfl ((secAt bs k).map bv) (fun w' hw' => secAt_cell (HR.out.nw (gb_trans N1.out hw') hB) hlt) _ Try.underlying27 rfl (i27.trans (by rw [List.length_map, secAt_len HL.out hlt])) ?_
      refine wpYield_eq_arr false 27 _ 5 64 _ _ rfl rfl s (secAt bs k) Try.underlying27 Try.underlying5 (by kernel_rfl) (by kernel_rfl) rfl rfl HS.out (secAt_len HL.out hlt) q (by rw [HQ.out]; simp) ?_
      refine wpYield_nil ?_
      refine wpAnyH_done (by kernel_rfl) ?_ _
      rcases q with _ | _
      · go_wp2
        refine ⟨⟨k + 1, hlt, rfl, fun j hj => ?_, gb_drew HNW.out⟩, by simp [intOf]; omega⟩
        by_cases hjk : j = k
        · rw [hjk]; intro e; have := HQ.out; rw [e] at this; simp at this
        · exact HNO.out j (by omega)
      · go_wp2
        go_ret
        refine ⟨_, rfl, ?_, gb_trans N1.out (gb_drew HNW.out)⟩
        rw [(hasB_iff bs s).2 ⟨k, by rw [HL.out]; omega, by have := HQ.out; simp at this; exact this.symm⟩]
        simp
    · have hk' : k = n := by omega
      go_wp2
      go_ret
      refine ⟨_, rfl, ?_, gb_trans N1.out HNW.out⟩
      have : hasB bs s = false := by
        rw [← Bool.not_eq_true, hasB_iff]
        rintro ⟨i, hi, e⟩
        exact HNO.out i (by rw [HL.out] at hi; omega) e
      rw [this]
      simp
end Go.Proofs.Ytblkdmnfmnbbeaa

