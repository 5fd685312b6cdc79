/- The reference's map of places in memory; what its New, Has, Count, Next, TakeAt, Free, Take and Clone do. -/
import Derived.Test.YtoinkofoaodkhaaDoorH
namespace Go.Proofs.YtoinkofoaodkhaaDoor
open Go.RowKit Go.BW Go.BW.Bit

theorem T42 : El Tryd.prog 42 4 (.bool false) 1 1 := El.mk' Tryd.underlying42 (by kernel_rfl) rfl (by decide)
def bo (b : Bool) : Value := .bool b
theorem bo_one (bs : List Bool) : ∀ u ∈ bs.map bo, u.oneCell' = true := by intro u hu; obtain ⟨x, _, rfl⟩ := List.mem_map.1 hu; rfl
theorem toList_madeB (n : Nat) : (madeCells (Value.bool false).cells n).toList = (List.replicate n false).map bo := by
  apply List.ext_getElem?
  intro j
  by_cases hj : j < n
  · simp [madeCells, hj, Value.cells, bo, Nat.mod_one]
  · simp [madeCells, hj]
theorem own_keep {w w' : World} {base size n c : Nat} {e : TypeId} {A : Option Addr} {xs : List Value} {F : List Nat} (h : Own w base e size A n c xs) (k : Chg w w' F) (hne : ∀ r, (Value.slice A n c).ownBlock = some r → r ∉ F) : Own w' base e size A n c xs := by
  rcases h.2 with h2 | ⟨g, cap, cur, hv, hb, hg, rest⟩
  · exact ⟨h.1, .inl h2⟩
  · exact ⟨h.1, .inr ⟨g, cap, cur, hv, hb, (k.block g (Array.getElem?_eq_some_iff.1 hg).1 (hne g (by rw [hv]; rfl))).trans hg, rest⟩⟩
/-- the reference's map at hand in a walk that began at wb -/
structure RS (wb w : World) (g : Nat) (bs : List Bool) : Prop where
  rep : ∃ A c, Obj1 w g 53 #[.slice A bs.length c] ∧ Own w wb.heap.size 4 1 A bs.length c (bs.map bo)
  ge : wb.heap.size ≤ g
  nw : Nw wb w
  len : bs.length ≤ 65536
def RChg (w w' : World) : Prop := ∃ l cur, Obj1 w l 4 cur ∧ Chg w w' [l]
section
variable {wb w w' : World} {g : Nat} {bs : List Bool}
theorem RS.more (h : RS wb w g bs) (k : Nw w w') : RS wb w' g bs := by
  obtain ⟨⟨A, c, h1, h2⟩, h3, h4, h5⟩ := h
  exact ⟨⟨A, c, h1.nw k, h2.nw k⟩, h3, gb_trans h4 k, h5⟩
/-- the program's map changes -/
theorem RS.chgB {gb : Nat} {cs : List Bool} (h : RS wb w g bs) (hb : BS wb w gb cs) (k : Chg w w' [gb]) : RS wb w' g bs := by
  obtain ⟨⟨A, c, h1, h2⟩, h3, h4, h5⟩ := h
  exact ⟨⟨A, c, h1.chg k (by simpa using h1.ne hb.rep.1 (by decide)), own_keep h2 k (fun r hr => by obtain ⟨cur, ho⟩ := h2.rowObj r hr; simpa using ho.ne hb.rep.1 (by decide))⟩, h3, nw_of_chg h4 k (by intro x hx; simp at hx; subst hx; exact hb.ge), h5⟩
/-- the reference's map changes -/
theorem BS.chgR {cs : List Bool} (h : BS wb w g bs) (k : RChg w w') (n : Nw wb w') : BS wb w' g bs := by
  obtain ⟨l, cur, ho, hc⟩ := k
  exact ⟨⟨h.rep.1.chg hc (by simpa using h.rep.1.ne ho (by decide)), h.rep.2⟩, h.ge, n⟩
theorem RS.cell (h : RS wb w g bs) : ∃ A c, w.cell? ⟨g, 0, none⟩ = some (.slice A bs.length c) ∧ Own w wb.heap.size 4 1 A bs.length c (bs.map bo) ∧ Obj1 w g 53 #[.slice A bs.length c] := by
  obtain ⟨⟨A, c, h1, h2⟩, _⟩ := h
  exact ⟨A, c, h1.cell 0, h2, h1⟩
end
theorem own_bit {w : World} {base l n c k : Nat} {bs : List Bool} (h : Own w base 4 1 (some ⟨l, 0, none⟩) n c (bs.map bo)) (hk : k < n) : w.cell? ⟨l, k, none⟩ = some (.bool (bs.getD k false)) ∧ w.frozen? ⟨l, k, none⟩ = false := by
  have hl : bs.length = n := by have := h.len; simpa using this
  obtain ⟨u, h1, h2, h3⟩ := h.cellAt hk
  rw [List.getElem?_map, List.getElem?_eq_getElem (by omega)] at h1
  injection h1 with h1
  refine ⟨?_, h3⟩
  rw [h2, ← h1, List.getD_eq_getElem?_getD, List.getElem?_eq_getElem (by omega)]
  rfl
/-- one place of the reference's map is written -/
theorem RS.put {wb w : World} {g l c k : Nat} {bs : List Bool} (h : RS wb w g bs) (hc : Obj1 w g 53 #[.slice (some ⟨l, 0, none⟩) bs.length c]) (ho : Own w wb.heap.size 4 1 (some ⟨l, 0, none⟩) bs.length c (bs.map bo)) (b : Bool) :
    RS wb (w.setCell ⟨l, k, none⟩ (.bool b)) g (bs.set k b) ∧ RChg w (w.setCell ⟨l, k, none⟩ (.bool b)) := by
  obtain ⟨o2, g2⟩ := ho.set k (bo b)
  rw [← List.map_set] at o2
  obtain ⟨cur, hob⟩ := ho.obj
  have hl : wb.heap.size ≤ l := ho.blk l rfl
  have cg := Chg.set w (p := ⟨l, k, none⟩) (F := [l]) (by simp) (.bool b)
  refine ⟨⟨⟨some ⟨l, 0, none⟩, c, ?_, ?_⟩, h.ge, nw_of_chg h.nw cg (by intro x hx; simp at hx; subst hx; exact hl), by rw [List.length_set]; exact h.len⟩, l, cur, hob, cg⟩
  · rw [List.length_set]; exact hc.chg cg (by simpa using hc.ne hob (by decide))
  · rw [List.length_set]; exact o2
theorem rhas_any {wb w : World} {g : Nat} {bs : List Bool} (h : RS wb w g bs) (i : Int) : Calls Tryd.prog 32 #[pv g, .int .i64 i] w fun e w' => e = .returned (.bool (hasB bs i)) ∧ w = w' := by
  obtain ⟨A, c, hc, ho, _⟩ := h.cell
  obtain ⟨N, hN⟩ : ∃ N, bs.length = N := ⟨_, rfl⟩
  have h5 := h.len
  rw [hN] at hc ho h5
  obtain ⟨R, hR⟩ : ∃ R, hasB bs i = R := ⟨_, rfl⟩
  rw [hR]
  unfold hasB inB at hR
  rw [hN] at hR
  have HRR := Lib.hid hR
  clear h hN hR
  unfold pv
  rcases (show ¬ 0 ≤ i ∨ (0 ≤ i ∧ ¬ i < N) ∨ (0 ≤ i ∧ i < N) from by omega) with h0 | ⟨h0, h1⟩ | ⟨h0, h1⟩
  · have HO := Lib.hid ho; clear ho
    go_enter Tryd.func32, Tryd.ntmps32
    go_wp2
    go_ret
    exact ⟨by rw [← HRR.out]; simp; omega, rfl⟩
  · have HO := Lib.hid ho; clear ho
    go_enter Tryd.func32, Tryd.ntmps32
    go_wp2
    go_ret
    exact ⟨by rw [← HRR.out]; simp; omega, rfl⟩
  · obtain ⟨k, rfl⟩ : ∃ k : Nat, i = k := ⟨i.toNat, by omega⟩
    have hk : k < N := by omega
    obtain ⟨l, rfl, _⟩ := ho.some_ (by omega)
    obtain ⟨hck, _⟩ := own_bit ho hk
    obtain ⟨q, hq⟩ : ∃ q, bs.getD k false = q := ⟨_, rfl⟩
    rw [hq] at hck
    have HQ := Lib.hid hq; clear hq
    have HO := Lib.hid ho; clear ho h0
    go_enter Tryd.func32, Tryd.ntmps32
    go_wp2
    go_ret
    exact ⟨by rw [← HRR.out, Int.toNat_natCast, HQ.out]; simp [hk], rfl⟩
def RPost (wb : World) (g : Nat) (r : Int × List Bool) (w : World) (e : Ending) (w' : World) : Prop := e = .returned (.int .i64 r.1) ∧ RS wb w' g r.2 ∧ (w' = w ∨ RChg w w')
theorem rtakeAt_any {wb w : World} {g : Nat} {bs : List Bool} (h : RS wb w g bs) (i : Int) : Calls Tryd.prog 29 #[pv g, .int .i64 i] w (RPost wb g (takeF bs i) w) := by
  obtain ⟨A, c, hc, ho, hob⟩ := h.cell
  have HS := Lib.hid h; have HOB := Lib.hid hob; have HOW := Lib.hid ho
  obtain ⟨N, hN⟩ : ∃ N, bs.length = N := ⟨_, rfl⟩
  have h5 := h.len
  have HN := Lib.hid hN
  rw [hN] at hc ho h5
  obtain ⟨R, hR⟩ : ∃ R, takeF bs i = R := ⟨_, rfl⟩
  rw [hR]
  have HRR := Lib.hid hR
  clear h hob hN hR
  unfold pv
  rcases (show i < 0 ∨ (¬ i < 0 ∧ (N : Int) ≤ i) ∨ (0 ≤ i ∧ i < N) from by omega) with h0 | ⟨h0, h1⟩ | ⟨h0, h1⟩
  · clear ho
    go_enter Tryd.func29, Tryd.ntmps29
    go_wp2
    go_ret
    rw [← HRR.out, takeF_out (by rw [HN.out]; omega)]
    exact ⟨rfl, HS.out, .inl rfl⟩
  · clear ho
    go_enter Tryd.func29, Tryd.ntmps29
    go_wp2
    go_ret
    rw [← HRR.out, takeF_out (by rw [HN.out]; omega)]
    exact ⟨rfl, HS.out, .inl rfl⟩
  · obtain ⟨k, rfl⟩ : ∃ k : Nat, i = k := ⟨i.toNat, by omega⟩
    have hk : k < N := by omega
    have bk : decide (N ≤ k) = false := by simp; omega
    obtain ⟨l, rfl, _⟩ := ho.some_ (by omega)
    obtain ⟨hck, hfk⟩ := own_bit ho hk
    have HKB := Lib.hid (show k < bs.length from by rw [HN.out]; exact hk)
    cases hv : bs.getD k false with
    | true =>
      rw [hv] at hck
      have HV := Lib.hid hv
      clear ho hv h0 h1
      go_enter Tryd.func29, Tryd.ntmps29
      go_wp2
      go_ret
      rw [← HRR.out, takeF_st HKB.out HV.out]
      exact ⟨rfl, HS.out, .inl rfl⟩
    | false =>
      rw [hv] at hck
      have HV := Lib.hid hv
      clear ho hv h0 h1
      go_enter Tryd.func29, Tryd.ntmps29
      go_wp2
      go_ret
      rw [← HRR.out, takeF_ok HKB.out HV.out]
      obtain ⟨s2, r2⟩ := HS.out.put HOB.out HOW.out (k := k) true
      exact ⟨rfl, s2, .inr r2⟩
theorem rfree_any {wb w : World} {g : Nat} {bs : List Bool} (h : RS wb w g bs) (i : Int) : Calls Tryd.prog 30 #[pv g, .int .i64 i] w (RPost wb g (freeF bs i) w) := by
  obtain ⟨A, c, hc, ho, hob⟩ := h.cell
  have HS := Lib.hid h; have HOB := Lib.hid hob; have HOW := Lib.hid ho
  obtain ⟨N, hN⟩ : ∃ N, bs.length = N := ⟨_, rfl⟩
  have h5 := h.len
  have HN := Lib.hid hN
  rw [hN] at hc ho h5
  obtain ⟨R, hR⟩ : ∃ R, freeF bs i = R := ⟨_, rfl⟩
  rw [hR]
  have HRR := Lib.hid hR
  clear h hob hN hR
  unfold pv
  rcases (show i < 0 ∨ (¬ i < 0 ∧ (N : Int) ≤ i) ∨ (0 ≤ i ∧ i < N) from by omega) with h0 | ⟨h0, h1⟩ | ⟨h0, h1⟩
  · clear ho
    go_enter Tryd.func30, Tryd.ntmps30
    go_wp2
    go_ret
    rw [← HRR.out, freeF_out (by rw [HN.out]; omega)]
    exact ⟨rfl, HS.out, .inl rfl⟩
  · clear ho
    go_enter Tryd.func30, Tryd.ntmps30
    go_wp2
    go_ret
    rw [← HRR.out, freeF_out (by rw [HN.out]; omega)]
    exact ⟨rfl, HS.out, .inl rfl⟩
  · obtain ⟨k, rfl⟩ : ∃ k : Nat, i = k := ⟨i.toNat, by omega⟩
    have hk : k < N := by omega
    have bk : decide (N ≤ k) = false := by simp; omega
    obtain ⟨l, rfl, _⟩ := ho.some_ (by omega)
    obtain ⟨hck, hfk⟩ := own_bit ho hk
    have HKB := Lib.hid (show k < bs.length from by rw [HN.out]; exact hk)
    cases hv : bs.getD k false with
    | false =>
      rw [hv] at hck
      have HV := Lib.hid hv
      clear ho hv h0 h1
      go_enter Tryd.func30, Tryd.ntmps30
      go_wp2
      go_ret
      rw [← HRR.out, freeF_st HKB.out HV.out]
      exact ⟨rfl, HS.out, .inl rfl⟩
    | true =>
      rw [hv] at hck
      have HV := Lib.hid hv
      clear ho hv h0 h1
      go_enter Tryd.func30, Tryd.ntmps30
      go_wp2
      go_ret
      rw [← HRR.out, freeF_ok HKB.out HV.out]
      obtain ⟨s2, r2⟩ := HS.out.put HOB.out HOW.out (k := k) false
      exact ⟨rfl, s2, .inr r2⟩
set_option maxHeartbeats 2000000 in
theorem rcount_any {wb w : World} {g : Nat} {bs : List Bool} (h : RS wb w g bs) : Calls Tryd.prog 20 #[pv g] w fun e w' => e = .returned (.int .i64 (cnt bs : Nat)) ∧ w = w' := by
  obtain ⟨A, c, hc, ho, hob⟩ := h.cell
  have h5 := h.len
  obtain ⟨N, hN⟩ : ∃ N, bs.length = N := ⟨_, rfl⟩
  have HN := Lib.hid hN
  rw [hN] at hc ho h5
  have HO := Lib.hid ho
  clear h hob ho hN
  unfold pv
  go_enter Tryd.func20, Tryd.ntmps20
  go_wp2_with fail
  go_loopw [3, 4] (fun s i wr => ∃ k : Nat, k ≤ N ∧ i = .int .i64 k ∧ s = .int .i64 (cnt (bs.take k) : Nat) ∧ wr = w) (fun _ i _ => N - (intOf i).toNat)
  case atStart => exact ⟨0, Nat.zero_le _, rfl, by simp [cnt], rfl⟩
  case round =>
    obtain ⟨k, hk, rfl, rfl, rfl⟩ := hrel
    have hck : cnt (bs.take k) ≤ k := by have := cnt_le (bs.take k); simp at this; omega
    obtain ⟨C, hC⟩ : ∃ C, cnt (bs.take k) = C := ⟨_, rfl⟩
    rw [hC] at hck ⊢
    have HC := Lib.hid hC; clear hC
    by_cases hlt : k < N
    · obtain ⟨l, rfl, _⟩ := HO.out.some_ (by omega)
      obtain ⟨hcu, _⟩ := own_bit HO.out hlt
      have HST := Lib.hid (cnt_take bs k (by rw [HN.out]; exact hlt))
      cases hv : bs.getD k false with
      | true =>
        rw [hv] at hcu
        have HV := Lib.hid hv; clear hv
        go_wp2
        exact ⟨⟨k + 1, hlt, by go_num, by rw [HST.out, HV.out, HC.out]; go_num, by first | rfl | trivial⟩, by simp [intOf]; omega⟩
      | false =>
        rw [hv] at hcu
        have HV := Lib.hid hv; clear hv
        go_wp2
        exact ⟨⟨k + 1, hlt, by go_num, by rw [HST.out, HV.out, HC.out]; go_num, by first | rfl | trivial⟩, by simp [intOf]; omega⟩
    · have hk' : k = N := by omega
      subst hk'
      have HC2 := Lib.hid (show cnt bs = C from by rw [← HC.out, List.take_of_length_le (by rw [HN.out]; exact Nat.le_refl _)])
      go_wp2
      go_ret
      exact ⟨by rw [HC2.out]; rfl, rfl⟩
set_option maxHeartbeats 2000000 in
theorem rnext_any {wb w : World} {g : Nat} {bs : List Bool} (h : RS wb w g bs) (f : Int) : Calls Tryd.prog 31 #[pv g, .int .i64 f] w fun e w' => e = .returned (nextV bs f) ∧ w = w' := by
  obtain ⟨A, c, hc, ho, hob⟩ := h.cell
  have h5 := h.len
  obtain ⟨N, hN⟩ : ∃ N, bs.length = N := ⟨_, rfl⟩
  have HN := Lib.hid hN
  rw [hN] at hc ho h5
  have HO := Lib.hid ho
  obtain ⟨R, hR⟩ : ∃ R, nextV bs f = R := ⟨_, rfl⟩
  rw [hR]
  have HRR := Lib.hid hR
  clear h hob ho hN hR
  unfold pv
  go_enter Tryd.func31, Tryd.ntmps31
  go_wp2_with fail
  go_loopw [6] (fun i wr => ∃ k : Nat, k ≤ N ∧ i = .int .i64 k ∧ Hid (∀ j, f.toNat ≤ j → j < k → bs.getD j false = true) ∧ wr = w) (fun i _ => N - (intOf i).toNat)
  case atStart => exact ⟨0, Nat.zero_le _, rfl, Lib.hid (fun j _ h => by omega), rfl⟩
  case round =>
    obtain ⟨k, hk, rfl, HA, rfl⟩ := hrel
    by_cases hlt : k < N
    · obtain ⟨l, rfl, _⟩ := HO.out.some_ (by omega)
      obtain ⟨hcu, _⟩ := own_bit HO.out hlt
      rcases (show ¬ f ≤ (k : Int) ∨ f ≤ (k : Int) from by omega) with hf | hf
      · have HF := Lib.hid hf
        have b0 : decide (f ≤ (k : Int)) = false := by simpa using hf
        go_wp2
        exact ⟨⟨k + 1, hlt, by go_num, Lib.hid (fun j h1 h2 => by have := HF.out; exact (Nat.lt_or_ge j k).elim (fun h3 => HA.out j h1 h3) (fun h3 => by omega)), by first | rfl | trivial⟩, by simp [intOf]; omega⟩
      · have b0 : decide (f ≤ (k : Int)) = true := by simpa using hf
        cases hv : bs.getD k false with
        | true =>
          rw [hv] at hcu
          have HV := Lib.hid hv; clear hv
          go_wp2
          exact ⟨⟨k + 1, hlt, by go_num, Lib.hid (fun j h1 h2 => (Nat.lt_or_ge j k).elim (fun h3 => HA.out j h1 h3) (fun h3 => by have e : j = k := (by omega); subst e; exact HV.out)), by first | rfl | trivial⟩, by simp [intOf]; omega⟩
        | false =>
          rw [hv] at hcu
          have HX := Lib.hid (show nxt bs f.toNat = some k from (nxt_some _ _ _).2 ⟨by rw [HN.out]; exact hlt, by omega, hv, HA.out⟩)
          clear hv
          go_wp2
          go_ret2
          exact ⟨by rw [← HRR.out]; unfold nextV; rw [HX.out]; rfl, rfl⟩
    · have hk' : k = N := by omega
      have HX := Lib.hid (show nxt bs f.toNat = none from (nxt_none _ _).2 fun j h1 h2 => HA.out j h1 (by have := HN.out; omega))
      go_wp2
      go_ret2
      exact ⟨by rw [← HRR.out]; unfold nextV; rw [HX.out]; rfl, rfl⟩
end Go.Proofs.YtoinkofoaodkhaaDoor

