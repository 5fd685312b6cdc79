/- What the model's Fall and Flush do to any model of at most 96 blocks. -/
import Derived.Test.YtblkdmnfmnbbeaaB
namespace Go.Proofs.Ytblkdmnfmnbbeaa
open Go.RowKit Go.BW

def fallB (b : List UInt8 × Bool) : List UInt8 × Bool := (b.1, true)
def flushB (b : List UInt8 × Bool) : List UInt8 × Bool := if b.2 then b else (lastB b.1, false)
def ToRel (f : List UInt8 × Bool → List UInt8 × Bool) (w : World) (g l N c : Nat) (M : List (List UInt8 × Bool)) (F : List Nat) (K : Nat) (k : Nat) (wr : World) : Prop :=
  Fr w g (mapTo f M k) F K wr ∧ Obj1 wr g 52 #[.slice (some ⟨l, 0, none⟩) N c]
theorem ToRel.step {f : List UInt8 × Bool → List UInt8 × Bool} {w wr w2 : World} {g l N c : Nat} {M : List (List UInt8 × Bool)} {F F1 : List Nat} {K k p r r' n cc n' c' : Nat} {b : List UInt8 × Bool} (hN : M.length = N)
    (hcg : Chg w wr F) (hF1 : ∀ x ∈ F1, x ∈ F ∨ w.heap.size ≤ x) (A : AtB wr g (mapTo f M k) F1 K l k p r b n cc) (ho : Obj1 wr g 52 #[.slice (some ⟨l, 0, none⟩) N c])
    (hc2 : Chg wr w2 [p, r]) (hb : BlkAt w2 p r' (f b) n' c') (hn : n' ≤ K) (hr : r' = r ∨ wr.heap.size ≤ r') (hk : k < N) : ToRel f w g l N c M F K (k + 1) w2 := by
  obtain ⟨F2, h2, h3⟩ := A.upd w2 r' (f b) n' c' K hc2 hb hn (Nat.le_refl _) hr
  have hp := A.pF
  have hr' := A.rF
  refine ⟨Fr.step hcg hF1 (F1 := F1) ⟨F2, by rw [mapTo_step f M k A.elt (by omega)] at h2; exact h2, ⟨hc2.os, hc2.tape, hc2.output, hc2.size, fun x hx hx2 => hc2.block x hx (fun hm => ?_)⟩, h3⟩, ho.chg hc2 ?_⟩
  · simp only [List.mem_cons, List.not_mem_nil, or_false] at hm
    rcases hm with rfl | rfl
    · exact hx2 hp
    · exact hx2 hr'
  · simp [A.gp, A.gr]
set_option maxHeartbeats 1000000 in
theorem fall_any {w : World} {g K : Nat} {M : List (List UInt8 × Bool)} {F : List Nat} (h : Rep w g M F K) (hm : M.length ≤ 96) : Calls Try.prog 13 #[pv g] w (Post (.tuple #[]) g (M.map fallB) F K w) := by
  obtain ⟨l, c, ho⟩ := h.obj
  have hc := ho.cell 0
  obtain ⟨N, hN⟩ : ∃ N, M.length = N := ⟨_, rfl⟩
  rw [hN] at hc ho hm
  have HN := Lib.hid hN; clear hN
  rw [show (#[Value.slice (some ⟨l, 0, none⟩) N c])[0]? = some (.slice (some ⟨l, 0, none⟩) N c) from rfl] at hc
  have HO := Lib.hid ho; clear ho
  have HR := Lib.hid h; clear h
  unfold pv
  go_enter Try.func13, Try.ntmps13
  go_wp2
  clear hc
  go_loopw [9] (fun i wr => ∃ k : Nat, k ≤ N ∧ i = .int .i64 k ∧ ToRel fallB w g l N c M F K k wr) (fun i _ => N - (intOf i).toNat)
  case atStart => exact ⟨0, Nat.zero_le _, rfl, by rw [mapTo_zero]; exact Fr.refl HR.out, HO.out⟩
  case round =>
    obtain ⟨k, hk, rfl, ⟨F1, hr, hcg, hF1⟩, ho⟩ := hrel
    by_cases hlt : k < N
    · obtain ⟨p, r, b, n, cc, A⟩ := hr.at ho (i := k) (by rw [mapTo_len, HN.out]; exact hlt)
      have hcl := A.cell
      have hop := (A.blk.obj).cell 1
      rw [show (#[Value.slice (some ⟨r, 0, none⟩) n cc, .bool b.2])[1]? = some (.bool b.2) from rfl] at hop
      have hfz := (A.blk.obj).frozen 1
      have hA := Lib.hid A; clear A
      have hr' := Lib.hid hr; clear hr
      have hcg' := Lib.hid hcg; clear hcg
      have hF' := Lib.hid hF1; clear hF1
      have ho' := Lib.hid ho; clear ho
      go_wp2
      refine ⟨⟨k + 1, hlt, rfl, ?_⟩, by simp [intOf]; omega⟩
      exact ToRel.step HN.out hcg'.out hF'.out hA.out ho'.out (Chg.set wr (List.mem_cons_self ..) _) (hA.out.blk.openSet hA.out.pr true) hA.out.small (.inl rfl) hlt
    · have hk' : k = N := by omega
      go_wp2
      go_end0
      refine ⟨rfl, ?_⟩
      rw [hk', ← HN.out, mapTo_all] at hr
      exact ⟨F1, hr, hcg, hF1⟩
theorem own_lit (w : World) (cs : List Value) (h : cs.length = 64) {w' : World} (hw : w' = w.alloc (.cells (Value.agg cs.toArray).cells 27)) : Own w' w.heap.size 27 64 (some ⟨w.heap.size, 0, none⟩) 1 1 cs := by
  have := World.ownsRow_lit (e := 27) (size := 64) w cs.toArray 1 (Nat.le_refl _) (by unfold maxLen; omega) (by simp [h])
  rw [hw]
  exact this
set_option maxHeartbeats 1000000 in
theorem flush_any {w : World} {g K : Nat} {M : List (List UInt8 × Bool)} {F : List Nat} (h : Rep w g M F K) (hm : M.length ≤ 96) (hK : K ≤ 1000) : Calls Try.prog 12 #[pv g] w (Post (.tuple #[]) g (M.map flushB) F K w) := by
  obtain ⟨l, c, ho⟩ := h.obj
  have hc := ho.cell 0
  obtain ⟨N, hN⟩ : ∃ N, M.length = N := ⟨_, rfl⟩
  rw [hN] at hc ho hm
  have HN := Lib.hid hN; clear hN
  rw [show (#[Value.slice (some ⟨l, 0, none⟩) N c])[0]? = some (.slice (some ⟨l, 0, none⟩) N c) from rfl] at hc
  have HO := Lib.hid ho; clear ho
  have HR := Lib.hid h; clear h
  have HK := Lib.hid hK; clear hK
  unfold pv
  go_enter Try.func12, Try.ntmps12
  go_wp2
  clear hc
  go_loopw [9] (fun i wr => ∃ k : Nat, k ≤ N ∧ i = .int .i64 k ∧ ToRel flushB w g l N c M F K k wr) (fun i _ => N - (intOf i).toNat)
  case atStart => exact ⟨0, Nat.zero_le _, rfl, by rw [mapTo_zero]; exact Fr.refl HR.out, HO.out⟩
  case round =>
    obtain ⟨k, hk, rfl, ⟨F1, hr, hcg, hF1⟩, ho⟩ := hrel
    by_cases hlt : k < N
    · obtain ⟨p, r, b, n, cc, A⟩ := hr.at ho (i := k) (by rw [mapTo_len, HN.out]; exact hlt)
      have hcl := A.cell
      have hop := (A.blk.obj).cell 1
      rw [show (#[Value.slice (some ⟨r, 0, none⟩) n cc, .bool b.2])[1]? = some (.bool b.2) from rfl] at hop
      have hA := Lib.hid A; clear A
      have hr' := Lib.hid hr; clear hr
      have hcg' := Lib.hid hcg; clear hcg
      have hF' := Lib.hid hF1; clear hF1
      have ho' := Lib.hid ho; clear ho
      rcases hb2 : b.2 with _ | _
      · rw [hb2] at hop
        have hb3 := Lib.hid hb2; clear hb2
        have hnow := Lib.hid (now_any hA.out.blk (Nat.le_trans hA.out.small HK.out))
        unfold pv at hnow
        have HL := Lib.hid (lastB_len hA.out.blk)
        have hcp : ∀ w', Nw wr w' → w'.cell? ⟨p, 0, none⟩ = some (.slice (some ⟨r, 0, none⟩) n cc) := fun w' h2 => (hA.out.blk.obj.nw h2).cell 0
        have hfp : ∀ w', Nw wr w' → w'.frozen? ⟨p, 0, none⟩ = false := fun w' h2 => (hA.out.blk.obj.nw h2).frozen 0
        go_wp2_with (first | (refine hnow.out.mono ?_; rintro e w2 ⟨rfl, n2⟩; have n2' := Lib.hid n2; clear n2) |
          (refine wpList_buildSlice1 T22 _ rfl rfl (v := .agg ((lastB b.1).map bv).toArray) rfl (by simp [Value.cells, HL.out]) (by omega) ?_; obtain ⟨w3, hw3⟩ : ∃ w3, w3 = w2.alloc (.cells (Value.agg ((lastB b.1).map bv).toArray).cells 27) := ⟨_, rfl⟩; rw [← hw3];
            have n3 : Nw wr w3 := by rw [hw3]; exact gb_alloc n2'.out _); have o3 := Lib.hid (own_lit w2 _ (by rw [List.length_map, HL.out]) hw3); clear hw3)
        have hs2 := n2'.out.size
        have hlt2 := hA.out.blk.lt.1
        have hset := (hA.out.blk.nw n3).allSet (r' := w2.heap.size) (by omega) (o3.out.more (Nat.zero_le _)) (by omega)
        refine ⟨⟨k + 1, hlt, rfl, ?_⟩, by simp [intOf]; omega⟩
        refine ToRel.step (n' := 1) (c' := 1) HN.out hcg'.out hF'.out hA.out ho'.out ((Chg.of_nw n3).trans (Chg.set w3 (List.mem_cons_self ..) _) (fun x hx => .inl hx)) (r' := w2.heap.size) ?_ (Nat.le_trans hA.out.blk.pos hA.out.small) (.inr hs2) hlt
        have hfb : flushB b = (lastB b.1, b.2) := by unfold flushB; rw [hb3.out]; rfl
        rw [hfb]
        exact hset
      · rw [hb2] at hop
        have hb3 := Lib.hid hb2; clear hb2
        go_wp2
        refine ⟨⟨k + 1, hlt, rfl, ?_⟩, by simp [intOf]; omega⟩
        have hfb : flushB b = b := by unfold flushB; rw [hb3.out]; rfl
        exact ToRel.step HN.out hcg'.out hF'.out hA.out ho'.out (Chg.refl wr _) (by rw [hfb]; exact hA.out.blk) hA.out.small (.inl rfl) hlt
    · have hk' : k = N := by omega
      go_wp2
      go_end0
      refine ⟨rfl, ?_⟩
      rw [hk', ← HN.out, mapTo_all] at hr
      exact ⟨F1, hr, hcg, hF1⟩
end Go.Proofs.Ytblkdmnfmnbbeaa

