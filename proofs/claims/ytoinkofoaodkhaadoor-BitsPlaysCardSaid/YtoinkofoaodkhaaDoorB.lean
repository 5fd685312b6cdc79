/- What bits' Free does. -/
import Derived.Test.YtoinkofoaodkhaaDoorA
namespace Go.Proofs.YtoinkofoaodkhaaDoor
open Go.RowKit Go.BW Go.BW.Bit

theorem andnot_shl (W s : Nat) (hW : W < 18446744073709551616) (hs : s < 64) : bits .andNot .u64 (W : Int) (IntKind.u64.wrap (2 ^ s)) = ((W &&& (18446744073709551615 - 1 <<< s) : Nat) : Int) := by
  have hp : (1 <<< s : Nat) < 18446744073709551616 := by rw [Nat.shiftLeft_eq, Nat.one_mul]; exact Nat.pow_lt_pow_right (by decide) hs
  have e : IntKind.u64.wrap (2 ^ s) = ((1 <<< s : Nat) : Int) := by
    have h2 : ((2 : Int) ^ s) = ((1 <<< s : Nat) : Int) := by rw [Nat.shiftLeft_eq, Nat.one_mul, Int.natCast_pow]; rfl
    rw [h2, IntKind.wrap_u64]
    generalize (1 <<< s : Nat) = p at hp
    omega
  rw [e]
  generalize (1 <<< s : Nat) = p at hp
  have h1 : (BitVec.ofInt 64 (W : Int)).toNat = W := by
    rw [BitVec.ofInt_natCast, BitVec.toNat_ofNat]; exact Nat.mod_eq_of_lt (by omega)
  have h2 : (BitVec.ofInt 64 (p : Int)).toNat = p := by
    rw [BitVec.ofInt_natCast, BitVec.toNat_ofNat]; exact Nat.mod_eq_of_lt (by omega)
  have hx : W &&& (18446744073709551615 - p) < 2 ^ 64 := Nat.and_lt_two_pow _ (by omega)
  show IntKind.u64.wrap ((BitVec.ofInt 64 (W : Int) &&& ~~~ BitVec.ofInt 64 (p : Int)).toNat : Int) = _
  rw [BitVec.toNat_and, BitVec.toNat_not, h1, h2, IntKind.wrap_u64]
  have e3 : 2 ^ 64 - 1 - p = 18446744073709551615 - p := by omega
  rw [e3]
  omega
set_option maxRecDepth 100000 in
set_option maxHeartbeats 2000000 in
theorem free_any {w : World} {g : Nat} {bs : List Bool} (h : BR w g bs) (i : Int) : Calls Tryd.prog 17 #[pv g, .int .i64 i] w (BPost g (freeF bs i) w) := by
  have hi := in_any h i
  have hh := has_any h i
  unfold freeF
  unfold hasB at hh
  cases hb : inB i bs.length with
  | false =>
    rw [hb] at hi
    clear hb hh
    have HB := Lib.hid h; clear h
    unfold pv at hi ⊢
    have HI := Lib.hid hi; clear hi
    go_enter Tryd.func17, Tryd.ntmps17
    go_wp2_with (refine HI.out.mono ?_; rintro e w2 ⟨rfl, rfl⟩)
    go_ret
    exact ⟨rfl, HB.out, Chg.refl _ _⟩
  | true =>
    rw [hb] at hi hh
    cases hv : bs.getD i.toNat false with
    | false =>
      rw [hv] at hh
      clear hb
      have HB := Lib.hid h; clear h
      unfold pv at hi hh ⊢
      have HI := Lib.hid hi; have HH := Lib.hid hh; clear hi hh hv
      go_enter Tryd.func17, Tryd.ntmps17
      go_wp2_with (first | (refine HI.out.mono ?_; rintro e w2 ⟨rfl, rfl⟩) | (refine HH.out.mono ?_; rintro e w2 ⟨rfl, rfl⟩))
      go_ret
      exact ⟨rfl, HB.out, Chg.refl _ _⟩
    | true =>
      rw [hv] at hh
      obtain ⟨k, rfl⟩ : ∃ k : Nat, i = k := ⟨i.toNat, by unfold inB at hb; simp at hb; omega⟩
      have hk : k < bs.length := by unfold inB at hb; simp at hb; omega
      rw [Int.toNat_natCast] at hv ⊢
      have hk2 : k / 64 < 1024 := by have := h.2; omega
      have hw := fun (w' : World) (n : Nw w w') => (h.nw n).word hk2
      have HW := Lib.hid (word_free bs k hk)
      have hlt := word_lt bs (k / 64)
      have bw : IntKind.i64.wrap ((k : Int) / 64) = ((k / 64 : Nat) : Int) := by have := h.2; rw [IntWalk.i64_in _ (by omega)]; omega
      have hs : k % 64 < 64 := Nat.mod_lt _ (by decide)
      have br : (k : Int).tmod 64 = ((k % 64 : Nat) : Int) := by rw [Int.tmod_eq_emod_of_nonneg (by omega)]; omega
      obtain ⟨q, hq⟩ : ∃ q, k / 64 = q := ⟨_, rfl⟩
      obtain ⟨s, hs'⟩ : ∃ s, k % 64 = s := ⟨_, rfl⟩
      obtain ⟨W, hW⟩ : ∃ W, word bs q = W := ⟨_, rfl⟩
      rw [hq] at HW hlt hw bw hk2
      rw [hW] at HW hlt hw
      rw [hs'] at hs br HW
      have hq3 : (q : Int) < 1024 := by omega
      have h65 : k < 65536 := by have := h.2; omega
      have HB := Lib.hid h; have HK := Lib.hid hk; have HV := Lib.hid hv
      have HQ := Lib.hid hq; have HS := Lib.hid hs'; clear hb h hW hk hv hq hs'
      unfold pv at hi hh ⊢
      have HI := Lib.hid hi; have HH := Lib.hid hh; clear hi hh
      go_enter Tryd.func17, Tryd.ntmps17
      go_wp2_with (first | (refine HI.out.mono ?_; rintro e w2 ⟨rfl, rfl⟩) | (refine HH.out.mono ?_; rintro e w2 ⟨rfl, rfl⟩))
      refine wp_region_U [14] (fun w' => Nw w w') (by kernel_rfl) ?_
      change wpU _ _ _ _ _ _ _ _ _ (World.drew w)
      refine U_segL (r := [0, 1, 2, 3, 4, 5, 6, 7, 8, 9, 10]) (fuel := 4) rfl (by kernel_rfl) (by kernel_rfl) (by simp only [List.filterMap_cons, List.filterMap_nil, List.getElem?_toArray, List.getElem?_cons_succ, List.getElem?_cons_zero]; rfl) (fun _ _ d _ _ h => by cases d <;> exact h) (gb_drew (Nw.refl w)) ?_
      iterate 11 (refine wpYield_step rfl (fun K hK => ?_)
                  apply Exists.intro
                  refine ⟨fun w' hw' => ?_, ?_⟩
                  · (go_simp; try with_reducible rfl)
                  go_simp
                  refine hK _ ?_
                  clear hK K)
      refine wpYield_nil ?_
      refine U_segP (r := [11, 12, 13]) (fuel := 1) rfl (by kernel_rfl) (by kernel_rfl) (by simp only [List.filterMap_cons, List.filterMap_nil, List.getElem?_toArray, List.getElem?_cons_succ, List.getElem?_cons_zero]; rfl) (fun _ _ d _ _ h => by cases d <;> exact h) (until_of (gb_drew (Nw.refl w))) ?_
      iterate 3 (refine wpYield_step rfl (fun K hK => ?_)
                 apply Exists.intro
                 refine ⟨fun w' hw' => ?_, ?_⟩
                 · (go_simp; try with_reducible rfl)
                 go_simp
                 refine hK _ ?_
                 clear hK K)
      refine wpYield_nil ?_
      refine U_eff 14 rfl (by kernel_rfl) rfl (fun K hK => ?_)
      have e0 := hw w.drew (gb_drew (Nw.refl w)); have f0 := HB.out.1.frozen q
      go_simp
      rw [andnot_shl _ _ hlt hs]
      refine hK _ _ ⟨until_past (by kernel_rfl), ?_⟩
      clear hK K
      refine U_done (by kernel_rfl) ?_ _
      clear e0 f0 hw
      obtain ⟨w2, hw2⟩ : ∃ w2, w2 = (w.setCell ⟨g, q, none⟩ (.int .u64 ((W &&& (18446744073709551615 - 1 <<< s) : Nat) : Int))).drew := ⟨_, rfl⟩
      rw [← hw2]
      have o2 : Obj1 w2 g 58 ((bc bs).toArray.setIfInBounds q (.int .u64 ((W &&& (18446744073709551615 - 1 <<< s) : Nat) : Int))) := by rw [hw2]; exact HB.out.1.set q _
      have c2 : w2.cell? ⟨g, 1025, none⟩ = some (.int .i64 (cnt bs)) := by
        rw [o2.cell 1025, Array.getElem?_setIfInBounds_ne (by omega), List.getElem?_toArray, bc_k]; rfl
      have f2 := o2.frozen 1025
      have hcnt : cnt bs ≤ 65536 := by have := cnt_le bs; have := HB.out.2; omega
      obtain ⟨C, hC⟩ : ∃ C, cnt (bs.set k false) = C := ⟨_, rfl⟩
      have hC2 := cnt_unset bs k HK.out HV.out
      rw [hC] at hC2
      have e2 : ((cnt bs : Nat) : Int) = (C : Int) + 1 := by omega
      rw [e2] at c2
      have hcw : wrap64 ((C : Int) + 1 - 1) = (C : Int) := by unfold wrap64; omega
      have hcx : (C : Int) + 1 - 1 = (C : Int) := by omega
      have HC := Lib.hid hC; have HW2 := Lib.hid hw2
      clear o2 hC hw2
      go_wp2
      go_ret
      refine ⟨rfl, ?_, ?_⟩
      · have := set2_BR HB.out k false HK.out
        rw [HC.out, HQ.out, ← HW.out, ← HW2.out] at this
        exact this
      · rw [HW2.out]
        exact ((Chg.set w (p := ⟨g, q, none⟩) (F := [g]) (by simp) _).drew).trans (Chg.set _ (p := ⟨g, 1025, none⟩) (F := [g]) (by simp) _) (fun x hx => .inl hx)
end Go.Proofs.YtoinkofoaodkhaaDoor

