/- What the reference's May returns. -/
import Derived.Test.YtblkdmnfmnbbeaaU
namespace Go.Proofs.Ytblkdmnfmnbbeaa
open Go.RowKit Go.BW

theorem rmay_bad {w : World} {g : Nat} {M : MB} {F : List Nat} (h : RRep w g M F) (n : Int) (hn : Bad M n) (s : List UInt8) : Calls Try.prog 24 #[pv g, .int .i64 n, sv s] w (Ret (.bool false) w) := by
  obtain ⟨l, c, xs, h, hM, _⟩ := h
  have hi := fun (w1 : World) (n1 : Nw w w1) => is_any (h.obj.nw n1) n
  rw [show inR n xs.length = false from by unfold inR; unfold Bad at hn; rw [hM, List.length_map] at hn; simp; omega] at hi
  clear h hn hM
  unfold pv at hi ⊢
  unfold sv
  have HI := Lib.hid hi; clear hi
  go_enter Try.func24, Try.ntmps24
  go_wp2_with (refine (HI.out _ (World.grownBy_alloc w _ none)).mono ?_; rintro e w2 ⟨rfl, rfl⟩)
  go_ret
  exact ⟨rfl, World.grownBy_alloc w _ none⟩
theorem has_open {la lt s : List UInt8} {n : Nat} (hl : la.length = 64) (ht : lt.length = n * 64) : hasB (la ++ lt) s = true ↔ la = s ∨ ∃ j, j < n ∧ secAt lt j = s := by
  rw [hasB_iff]
  have e : (la ++ lt).length / 64 = n + 1 := by rw [List.length_append]; omega
  have h0 : secAt (la ++ lt) 0 = la := by
    unfold secAt
    rw [Nat.zero_mul, List.drop_zero, List.take_append, hl, Nat.sub_self, List.take_zero, List.append_nil, List.take_of_length_le (by omega)]
  have h1 : ∀ j, secAt (la ++ lt) (j + 1) = secAt lt j := by
    intro j
    unfold secAt
    rw [List.drop_append, List.drop_of_length_le (by omega), List.nil_append, hl, show (j + 1) * 64 - 64 = j * 64 by omega]
  rw [e]
  constructor
  · rintro ⟨i, hi, hs⟩
    rcases i with _ | i
    · exact .inl (h0 ▸ hs)
    · exact .inr ⟨i, by omega, h1 i ▸ hs⟩
  · rintro (hs | ⟨j, hj, hs⟩)
    · exact ⟨0, by omega, h0.trans hs⟩
    · exact ⟨j + 1, by omega, (h1 j).trans hs⟩
set_option maxHeartbeats 4000000 in
theorem rmay_in {w : World} {g : Nat} {M : MB} {F : List Nat} (h : RRep w g M F) (i : Nat) (b : List UInt8 × Bool) (hb : M[i]? = some b) (s : List UInt8) (hs : s.length = 64) : Calls Try.prog 24 #[pv g, .int .i64 i, sv s] w (Ret (.bool (mayOf b s)) w) := by
  obtain ⟨l, c, xs, x, h, hM, _, hx, hab, hlen⟩ := h.at hb
  have hiN := (List.getElem?_eq_some_iff.1 hx).1
  have hi := fun (w1 : World) (n1 : Nw w w1) => is_any (h.obj.nw n1) (i : Int)
  rw [show inR i xs.length = true from by unfold inR; simp; omega] at hi
  obtain ⟨N, hN⟩ : ∃ N, xs.length = N := ⟨_, rfl⟩
  have HC := Lib.hid (show ∀ w', Nw w w' → w'.cell? ⟨g, 0, none⟩ = some (.slice (some ⟨l, 0, none⟩) N c) ∧ ∀ j u, (rc x)[j]? = some u → w'.cell? ⟨l, i * 66 + j, none⟩ = some u from fun w' k => by
    refine ⟨?_, (h.nw k).row.atL rc_len (by omega) hx⟩
    rw [(h.nw k).obj.cell 0, ← hN]; rfl)
  rw [hN] at hiN
  have hsub := h.sub x (List.mem_of_getElem? hx)
  have HL := Lib.hid (fun (w' : World) (k : Nw w w') => last_any x (hsub.1.nw k) hsub.2)
  have HSUB := Lib.hid hsub
  have hltl : x.lt.length = x.n * 64 := by have := hsub.1.len; simpa using this
  have HLT := Lib.hid hltl
  have hn2 := hsub.2
  unfold maxLen at hn2
  have LS := Lib.hid hs
  obtain ⟨op, hop⟩ : ∃ op, x.op = op := ⟨_, rfl⟩
  obtain ⟨R, hR⟩ : ∃ R, mayOf b s = R := ⟨_, rfl⟩
  have hR2 : R = if op then hasB (x.la ++ x.lt) s else decide (lastR x = s) := by
    rw [← hR, ← hab, ← hop]
    rfl
  rw [hR]
  have HR2 := Lib.hid hR2
  have HOP := Lib.hid hop
  have LAS := Lib.hid (show (lastR x).length = 64 from by
    refine lastB_64 ?_
    rw [List.length_append, x.hl]
    omega)
  clear h hx hab hM hlen hb hN hs hR hR2 hop hsub hltl
  unfold rv at HL
  unfold pv at hi ⊢
  have HI := Lib.hid hi; clear hi
  obtain ⟨w1, hw1⟩ : ∃ w1, w1 = w.alloc (.cells (s.map bv).toArray 27) := ⟨_, rfl⟩
  have OBS := Lib.hid (show Obj1 w1 w.heap.size 27 (s.map bv).toArray from by rw [hw1]; exact Obj1.new w _ _)
  have N1 := Lib.hid (show Nw w w1 from by rw [hw1]; exact World.grownBy_alloc w _ none)
  have HW := Lib.hid hw1; clear hw1
  obtain ⟨i1, hi1, hz1, _⟩ := T39.info
  have HZ1 := Lib.hid hz1; clear hz1
  have HI1 := Lib.hid hi1; clear hi1
  unfold sv
  rcases op with _ | _
  · obtain ⟨q, hq⟩ : ∃ q, decide (lastR x = s) = q := ⟨_, rfl⟩
    have HQ := Lib.hid hq; clear hq
    go_enter Try.func24, Try.ntmps24
    go_wp2_with (first |
      (refine wpList_store_own (cs := rc x) 61 _ _ rfl rfl rfl rfl rfl (i61.trans (by rw [rc_len])) (rc_one x) A2.out (by rw [rc_len]; decide) ?_; intro w3 c1 c2; have o3 := Own.row1 c1; rw [splice_all _ _ (by rw [rc_len, A2.out.len])] at o3; have OY := Lib.hid o3; have N3 := Lib.hid (nw_of_gb A2n.out c2 (by intro y e; injection e with e; subst e; exact A2s.out)); have OB3 := Lib.hid (OBS.out.nw N3.out); obtain ⟨d0, d1, _⟩ := obj_at o3; rw [HOP.out] at d1; clear o3 c1 c2) |
      (refine wpList_alloc (size := 66) 61 rfl rfl w1.heap.size i1 HI1.out HZ1.out (by kernel_rfl) (Nat.le_refl _) ?_; intro y w2 a1 a2 a3; have A2 := Lib.hid a1; have A2n := Lib.hid a2; have A2s := Lib.hid a3; clear a1 a2 a3) |
      (refine wpList_load_agg 61 _ rfl rfl rfl (rc x) (HC.out w1 N1.out).2 _ Try.underlying61 rfl (i61.trans (by rw [rc_len])) ?_) |
      (rw [← HW.out]; refine (HI.out w1 N1.out).mono ?_; rintro e w2 ⟨rfl, rfl⟩; obtain ⟨c0, _⟩ := HC.out w1 N1.out))
    refine wp_region_held (S := (fun w' => Nw w3 w')) (by kernel_rfl) ?_
    change wpAnyH _ _ _ _ _ _ _ _ (World.drew w3)
    refine held_seg' (l := [0, 2]) (fuel := 3) rfl (by kernel_rfl) (by kernel_rfl) (by simp only [List.filterMap_cons, List.filterMap_nil, List.getElem?_toArray, List.getElem?_cons_succ, List.getElem?_cons_zero]; rfl) (fun _ _ d _ _ h => by cases d <;> exact h) (gb_drew (Nw.refl w3)) ?_
    refine wpYield_load_agg 61 _ rfl rfl rfl (rc x) (fun w' hw' j u hu => by rw [Nat.zero_add, (OY.out.nw hw').cell j]; simpa using hu) _ Try.underlying61 rfl (i61.trans (by rw [rc_len])) ?_
    refine wpYield_load_agg 27 _ rfl rfl rfl (s.map bv) (fun w' hw' => load_of (OB3.out.nw hw')) _ Try.underlying27 rfl (i27.trans (by rw [List.length_map, LS.out])) ?_
    refine wpYield_nil ?_
    refine held_eff 1 rfl (by kernel_rfl) rfl (fun K hK => ?_)
    go_simp
    refine (HL.out w3.drew (gb_trans N1.out (gb_drew N3.out))).mono ?_
    rintro e w4 ⟨rfl, n4⟩
    refine hK _ _ ⟨gb_of_drew n4, ?_⟩
    clear hK K
    refine held_seg' (l := [3, 4]) (fuel := 0) rfl (by kernel_rfl) (by kernel_rfl) (by simp only [List.filterMap_cons, List.filterMap_nil, List.getElem?_toArray, List.getElem?_cons_succ, List.getElem?_cons_zero]; rfl) (fun _ _ d _ _ h => by cases d <;> exact h) (gb_of_drew n4) ?_
    refine wpYield_eq_arr false 27 _ 5 64 _ _ rfl rfl (lastR x) s Try.underlying27 Try.underlying5 (by kernel_rfl) (by kernel_rfl) rfl rfl LAS.out LS.out q (by rw [HQ.out]; simp) ?_
    (refine wpYield_step rfl (fun K hK => ?_)
     apply Exists.intro
     refine ⟨fun w' hw' => ?_, ?_⟩
     · (go_simp; try with_reducible rfl)
     go_simp
     refine hK _ ?_
     clear hK K)
    refine wpYield_nil ?_
    refine wpAnyH_done (by kernel_rfl) ?_ _
    have N4 := Lib.hid n4; clear n4
    go_wp2
    go_ret
    have : R = q := by rw [HR2.out, ← HQ.out]; rfl
    rw [this]
    exact ⟨rfl, gb_trans N1.out (gb_trans N3.out (gb_of_drew N4.out))⟩
  · go_enter Try.func24, Try.ntmps24
    go_wp2_with (first |
      (refine wpList_store_own (cs := rc x) 61 _ _ rfl rfl rfl rfl rfl (i61.trans (by rw [rc_len])) (rc_one x) A2.out (by rw [rc_len]; decide) ?_; intro w3 c1 c2; have o3 := Own.row1 c1; rw [splice_all _ _ (by rw [rc_len, A2.out.len])] at o3; have OY := Lib.hid o3; have N3 := Lib.hid (nw_of_gb A2n.out c2 (by intro y e; injection e with e; subst e; exact A2s.out)); have OB3 := Lib.hid (OBS.out.nw N3.out); obtain ⟨d0, d1, _⟩ := obj_at o3; rw [HOP.out] at d1; clear o3 c1 c2) |
      (refine wpList_alloc (size := 66) 61 rfl rfl w1.heap.size i1 HI1.out HZ1.out (by kernel_rfl) (Nat.le_refl _) ?_; intro y w2 a1 a2 a3; have A2 := Lib.hid a1; have A2n := Lib.hid a2; have A2s := Lib.hid a3; clear a1 a2 a3) |
      (refine wpList_load_agg 61 _ rfl rfl rfl (rc x) (HC.out w1 N1.out).2 _ Try.underlying61 rfl (i61.trans (by rw [rc_len])) ?_) |
      (rw [← HW.out]; refine (HI.out w1 N1.out).mono ?_; rintro e w2 ⟨rfl, rfl⟩; obtain ⟨c0, _⟩ := HC.out w1 N1.out))
    go_loopw [8] (fun j wr => ∃ k : Nat, k ≤ x.n ∧ j = .int .i64 k ∧ (∀ t, t < k → secAt x.lt t ≠ s) ∧ Nw w3 wr) (fun j _ => x.n - (intOf j).toNat)
    case atStart => exact ⟨0, Nat.zero_le _, rfl, fun t ht => by omega, Nw.refl w3⟩
    case round =>
      obtain ⟨k, hk, rfl, hno, hnw⟩ := hrel
      have HNO := Lib.hid hno; have HNW := Lib.hid hnw; clear hno hnw
      have OYR := Lib.hid (OY.out.nw HNW.out)
      have OBR := Lib.hid (OB3.out.nw HNW.out)
      clear d0 d1
      have d0 : ∀ w', Nw wr w' → w'.cell? ⟨y, 64, none⟩ = some (.slice x.A x.n x.c) := fun w' k => (obj_at (OYR.out.nw k)).1
      have d0' := d0 wr (Nw.refl wr)
      by_cases hlt : k < x.n
      · obtain ⟨a, hA, _⟩ := HSUB.out.1.some_ (by omega)
        have hrow : ∀ w', Nw wr w' → ∀ j u, ((secAt x.lt k).map bv)[j]? = some u → w'.cell? ⟨a, k * 64 + j, none⟩ = some u := by
          intro w' k'
          have h1 := HSUB.out.1.nw (gb_trans N1.out (gb_trans N3.out (gb_trans HNW.out k')))
          rw [hA] at h1
          exact secAt_row h1 hlt
        have HROW := Lib.hid hrow; clear hrow
        simp only [hA] at d0 d0'
        obtain ⟨q, hq⟩ : ∃ q, decide (secAt x.lt k = s) = q := ⟨_, rfl⟩
        have HQ := Lib.hid hq; have HA := Lib.hid hA; clear hq hA
        go_wp2_with fail
        refine wp_region_held (S := (fun w' => Nw wr w')) (by kernel_rfl) ?_
        change wpAnyH _ _ _ _ _ _ _ _ (World.drew wr)
        refine held_seg' (l := [0, 1, 2, 3, 4, 5, 6]) (fuel := 0) rfl (by kernel_rfl) (by kernel_rfl) (by simp only [List.filterMap_cons, List.filterMap_nil, List.getElem?_toArray, List.getElem?_cons_succ, List.getElem?_cons_zero]; rfl) (fun _ _ d _ _ h => by cases d <;> exact h) (gb_drew (Nw.refl wr)) ?_
        iterate 4 (refine wpYield_step rfl (fun K hK => ?_)
                   apply Exists.intro
                   refine ⟨fun w' hw' => ?_, ?_⟩
                   · (go_simp; try with_reducible rfl)
                   go_simp
                   refine hK _ ?_
                   clear hK K)
        refine wpYield_load_agg 27 _ rfl rfl rfl ((secAt x.lt k).map bv) (fun w' hw' => HROW.out w' hw') _ Try.underlying27 rfl (i27.trans (by rw [List.length_map, secAt_len HLT.out hlt])) ?_
        refine wpYield_load_agg 27 _ rfl rfl rfl (s.map bv) (fun w' hw' => load_of (OBR.out.nw hw')) _ Try.underlying27 rfl (i27.trans (by rw [List.length_map, LS.out])) ?_
        refine wpYield_eq_arr false 27 _ 5 64 _ _ rfl rfl (secAt x.lt k) s Try.underlying27 Try.underlying5 (by kernel_rfl) (by kernel_rfl) rfl rfl (secAt_len HLT.out hlt) LS.out q (by rw [HQ.out]; simp) ?_
        refine wpYield_nil ?_
        refine wpAnyH_done (by kernel_rfl) ?_ _
        clear d0 d0'
        rcases q with _ | _
        · go_wp2
          refine ⟨⟨k + 1, hlt, by go_num, fun t ht => ?_, gb_trans HNW.out (gb_drew (Nw.refl wr))⟩, by simp [intOf]; omega⟩
          by_cases htk : t = k
          · subst htk; intro e; have := HQ.out; rw [e] at this; simp at this
          · exact HNO.out t (by omega)
        · go_wp2
          go_ret
          have : R = true := by
            rw [HR2.out]
            show hasB (x.la ++ x.lt) s = true
            exact (has_open x.hl HLT.out).2 (.inr ⟨k, hlt, by have := HQ.out; simpa using this⟩)
          rw [this]
          exact ⟨rfl, gb_trans N1.out (gb_trans N3.out (gb_trans HNW.out (gb_drew (Nw.refl wr))))⟩
      · have hk' : k = x.n := by omega
        subst hk'
        obtain ⟨q, hq⟩ : ∃ q, decide (x.la = s) = q := ⟨_, rfl⟩
        have HQ := Lib.hid hq; clear hq
        clear d0
        go_wp2_with (first | (refine wpList_eq_arr false 27 _ 5 64 _ _ rfl rfl x.la s Try.underlying27 Try.underlying5 (by kernel_rfl) (by kernel_rfl) rfl rfl x.hl LS.out q (by rw [HQ.out]; simp) ?_) |
          (refine wpList_load_agg 27 _ rfl rfl rfl (x.la.map bv) (obj_at OYR.out).2.2 _ Try.underlying27 rfl (i27.trans (by rw [List.length_map, x.hl])) ?_) |
          (refine wpList_load_agg 27 _ rfl rfl rfl (s.map bv) (load_of OBR.out) _ Try.underlying27 rfl (i27.trans (by rw [List.length_map, LS.out])) ?_))
        go_ret
        have : R = q := by
          rw [HR2.out, ← HQ.out]
          show hasB (x.la ++ x.lt) s = _
          rw [Bool.eq_iff_iff, has_open x.hl HLT.out]
          simp only [decide_eq_true_eq]
          constructor
          · rintro (e | ⟨j, hj, e⟩)
            · exact e
            · exact absurd e (HNO.out j hj)
          · exact fun e => .inl e
        rw [this]
        exact ⟨rfl, gb_trans N1.out (gb_trans N3.out HNW.out)⟩
end Go.Proofs.Ytblkdmnfmnbbeaa

