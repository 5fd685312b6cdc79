/- What the model's Settle does. -/
import Derived.Test.YtblkdmnfmnbbeaaH
namespace Go.Proofs.Ytblkdmnfmnbbeaa
open Go.RowKit Go.BW

def mayOf (b : List UInt8 × Bool) (s : List UInt8) : Bool := if b.2 then hasB b.1 s else decide (lastB b.1 = s)
def settleB (b : List UInt8 × Bool) (s : List UInt8) : List UInt8 × Bool := if mayOf b s && b.2 then (s, false) else b
theorem Post.same {w w' : World} {g Z : Nat} {M : List (List UInt8 × Bool)} {F : List Nat} (h : Rep w g M F Z) (n : Nw w w') (v : Value) : Post v g M F Z w (.returned v) w' :=
  ⟨rfl, F, h.nw n, Chg.of_nw n, fun _ h => .inl h⟩
theorem set_same {α : Type} (M : List α) (i : Nat) (b : α) (hb : M[i]? = some b) : M.set i b = M := by
  obtain ⟨h, e⟩ := List.getElem?_eq_some_iff.1 hb
  rw [← e]; exact List.set_getElem_self h
theorem settle_bad {w : World} {g Z : Nat} {M : List (List UInt8 × Bool)} {F : List Nat} (h : Rep w g M F Z) (n : Int) (hn : Bad M n) (s : List UInt8) (hs : s.length = 64) :
    Calls Try.prog 15 #[pv g, .int .i64 n, sv s] w (Post (.bool false) g M F Z w) := by
  have HM := fun (w1 : World) (n1 : Nw w w1) => may_bad (h.nw n1) n hn s hs
  unfold sv at HM ⊢
  unfold pv at HM ⊢
  have HM' := Lib.hid HM; clear HM
  have HR := Lib.hid h; clear h
  have HN := Lib.hid hn; clear hn
  have HS := Lib.hid hs; clear hs
  go_enter Try.func15, Try.ntmps15
  go_wp2_with (first | (refine wpList_load_agg 27 _ rfl rfl rfl (s.map bv) (fun j u hu => by rw [Nat.zero_add, (Obj1.new w 27 (s.map bv).toArray).cell j]; simpa using hu) _ Try.underlying27 rfl (i27.trans (by rw [List.length_map, HS.out])) ?_) |
    (refine (HM'.out _ (World.grownBy_alloc w _ none)).mono ?_; rintro e w2 ⟨rfl, n2⟩; have n2' := Lib.hid (gb_trans (World.grownBy_alloc w _ none) n2); clear n2))
  go_ret
  exact Post.same HR.out n2'.out _
set_option maxHeartbeats 1000000 in
theorem settle_in {w : World} {g Z : Nat} {M : List (List UInt8 × Bool)} {F : List Nat} (h : Rep w g M F Z) (hZ : Z ≤ 1000) (i : Nat) (b : List UInt8 × Bool) (hb : M[i]? = some b) (s : List UInt8) (hs : s.length = 64) :
    Calls Try.prog 15 #[pv g, .int .i64 i, sv s] w (Post (.bool (mayOf b s)) g (M.set i (settleB b s)) F Z w) := by
  obtain ⟨l, c, ho⟩ := h.obj
  have hi := (List.getElem?_eq_some_iff.1 hb).1
  obtain ⟨p, r, b', n, cc, A⟩ := h.at ho hi
  have hbb : b' = b := by have := A.elt; rw [hb] at this; injection this with this; exact this.symm
  subst hbb
  have HA := Lib.hid A; clear A
  have HT := fun (w1 : World) (n1 : Nw w w1) => the_some (ho.nw n1) i p hi (n1.cell HA.out.cell (by simp))
  have HM : ∀ w1, Nw w w1 → Calls Try.prog 14 #[pv g, .int .i64 i, sv s] w1 (Ret (.bool (mayOf b' s)) w1) := fun (w1 : World) (n1 : Nw w w1) => may_in (h.nw n1) hZ i b' hb s hs
  have hcp : ∀ w', Nw w w' → w'.cell? ⟨p, 0, none⟩ = some (.slice (some ⟨r, 0, none⟩) n cc) := fun w' h2 => (HA.out.blk.obj.nw h2).cell 0
  have hfp : ∀ w', Nw w w' → w'.frozen? ⟨p, 0, none⟩ = false := fun w' h2 => (HA.out.blk.obj.nw h2).frozen 0
  have hcp1 : ∀ w', Nw w w' → w'.cell? ⟨p, 1, none⟩ = some (.bool b'.2) := fun w' h2 => (HA.out.blk.obj.nw h2).cell 1
  have hfp1 : ∀ w', Nw w w' → w'.frozen? ⟨p, 1, none⟩ = false := fun w' h2 => (HA.out.blk.obj.nw h2).frozen 1
  obtain ⟨R, hR⟩ : ∃ R, mayOf b' s = R := ⟨_, rfl⟩
  obtain ⟨O, hO⟩ : ∃ O, b'.2 = O := ⟨_, rfl⟩
  obtain ⟨T, hT⟩ : ∃ T, settleB b' s = T := ⟨_, rfl⟩
  have hT2 : T = if R && O then (s, false) else b' := by rw [← hT, ← hR, ← hO]; rfl
  rw [hR] at HM ⊢
  rw [hT]
  rw [hO] at hcp1
  unfold sv at HM ⊢
  unfold pv at HT HM ⊢
  have HT' := Lib.hid HT; clear HT
  have HM' := Lib.hid HM; clear HM
  have HR := Lib.hid h; clear h
  have HB := Lib.hid hb; clear hb
  have HS := Lib.hid hs; clear hs
  have HO := Lib.hid hO; clear hO
  have HTT := Lib.hid hT2; clear hT2
  clear hR hT ho hi hZ
  rcases R with _ | _
  · go_enter Try.func15, Try.ntmps15
    go_wp2_with (first | (refine wpList_load_agg 27 _ rfl rfl rfl (s.map bv) (fun j u hu => by rw [Nat.zero_add, (Obj1.new w 27 (s.map bv).toArray).cell j]; simpa using hu) _ Try.underlying27 rfl (i27.trans (by rw [List.length_map, HS.out])) ?_) |
      (refine (HM'.out _ (World.grownBy_alloc w _ none)).mono ?_; rintro e w2 ⟨rfl, n2⟩; have n2' := Lib.hid (gb_trans (World.grownBy_alloc w _ none) n2); clear n2))
    go_ret
    have := HTT.out
    simp at this
    rw [this, set_same M i b' HB.out]
    exact Post.same HR.out n2'.out _
  · rcases O with _ | _
    · go_enter Try.func15, Try.ntmps15
      go_wp2_with (first | (refine wpList_load_agg 27 _ rfl rfl rfl (s.map bv) (fun j u hu => by rw [Nat.zero_add, (Obj1.new w 27 (s.map bv).toArray).cell j]; simpa using hu) _ Try.underlying27 rfl (i27.trans (by rw [List.length_map, HS.out])) ?_) |
        (refine (HM'.out _ (World.grownBy_alloc w _ none)).mono ?_; rintro e w2 ⟨rfl, n2⟩; have n2' := (gb_trans (World.grownBy_alloc w _ none) n2); clear n2) | (refine (HT'.out w2 n2').mono ?_; rintro e w3 ⟨rfl, rfl⟩))
      go_ret
      have := HTT.out
      simp at this
      rw [this, set_same M i b' HB.out]
      exact Post.same HR.out n2' _
    · go_enter Try.func15, Try.ntmps15
      go_wp2_with (first | (refine wpList_load_agg 27 _ rfl rfl rfl (s.map bv) (fun j u hu => by rw [Nat.zero_add, (Obj1.new w 27 (s.map bv).toArray).cell j]; simpa using hu) _ Try.underlying27 rfl (i27.trans (by rw [List.length_map, HS.out])) ?_) |
        (refine (HM'.out _ (World.grownBy_alloc w _ none)).mono ?_; rintro e w2 ⟨rfl, n2⟩; have OB2 := Lib.hid ((Obj1.new w 27 (s.map bv).toArray).nw n2); have n2' := (gb_trans (World.grownBy_alloc w _ none) n2); clear n2) | (refine (HT'.out w2 n2').mono ?_; rintro e w3 ⟨rfl, rfl⟩) |
        (refine wpList_load_agg 27 _ rfl rfl rfl (s.map bv) (fun j u hu => by rw [Nat.zero_add, OB2.out.cell j]; simpa using hu) _ Try.underlying27 rfl (i27.trans (by rw [List.length_map, HS.out])) ?_) |
        (refine wpList_buildSlice1 T22 _ rfl rfl (v := .agg (s.map bv).toArray) rfl (by simp [Value.cells, HS.out]) (by omega) ?_; obtain ⟨w3, hw3⟩ : ∃ w3, w3 = w2.alloc (.cells (Value.agg (s.map bv).toArray).cells 27) := ⟨_, rfl⟩; rw [← hw3];
            have n3 : Nw w w3 := by rw [hw3]; exact gb_alloc n2' _); have o3 := Lib.hid (own_lit w2 _ (by rw [List.length_map, HS.out]) hw3); clear hw3)
      go_ret
      have := HTT.out
      simp at this
      subst this
      have hs2 := n2'.size
      have hlt2 := HA.out.blk.lt.1
      have b5 := ((HA.out.blk.nw n3).allSet (r' := w2.heap.size) (by omega) (o3.out.more (Nat.zero_le _)) (by omega)).openSet (by omega) false
      have ch : Chg w ((w3.setCell ⟨p, 0, none⟩ (.slice (some ⟨w2.heap.size, 0, none⟩) 1 1)).setCell ⟨p, 1, none⟩ (.bool false)) [p, r] :=
        ((Chg.of_nw n3).trans (Chg.set w3 (List.mem_cons_self ..) _) (fun x hx => .inl hx)).trans (Chg.set _ (List.mem_cons_self ..) _) (fun x hx => .inl hx)
      obtain ⟨F2, h2, h3⟩ := HA.out.upd _ w2.heap.size (s, false) 1 1 Z ch b5 (Nat.le_trans HA.out.blk.pos HA.out.small) (Nat.le_refl _) (.inr hs2)
      have hp := HA.out.pF
      have hr := HA.out.rF
      exact ⟨rfl, F2, h2, ch.wide (by intro x hx; simp at hx; rcases hx with rfl | rfl <;> assumption), h3⟩
end Go.Proofs.Ytblkdmnfmnbbeaa

