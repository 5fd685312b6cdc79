/- What does does, a step on one block; two models at hand in one walk. -/
import Derived.Test.YtblkdmnfmnbbeaaL
namespace Go.Proofs.Ytblkdmnfmnbbeaa
open Go.RowKit Go.BW

structure Op where
  k : Int
  b : Int
  s : List UInt8
def oc (o : Op) : List Value := .int .i64 o.k :: .int .i64 o.b :: o.s.map bv
def ov (o : Op) : Value := .agg (oc o).toArray
def doesM (M : List (List UInt8 × Bool)) (i : Nat) (b : List UInt8 × Bool) (o : Op) : List (List UInt8 × Bool) :=
  if o.k = 1 then M.set i (b.1 ++ o.s, false) else if o.k = 2 then M.map flushB else if o.k = 3 then M.map fallB else if o.k = 4 then M.set i (settleB b o.s) else M
def doesR (b : List UInt8 × Bool) (o : Op) : Bool :=
  if o.k = 1 then true else if o.k = 2 then mayOf (flushB b) o.s else if o.k = 3 then mayOf (fallB b) o.s else mayOf b o.s
theorem op_load {w : World} {x : Nat} {o : Op} (h : Obj1 w x 43 (oc o).toArray) : ∀ j u, (o.s.map bv)[j]? = some u → w.cell? ⟨x, 2 + j, none⟩ = some u := by
  intro j u hu
  rw [h.cell, List.getElem?_toArray, oc, Nat.add_comm]
  exact hu
theorem Post.after {w w1 w2 : World} {g Z1 : Nat} {M1 : List (List UInt8 × Bool)} {F F1 : List Nat} {v : Value} {e : Ending} (c : Chg w w1 F) (hf : ∀ x ∈ F1, x ∈ F ∨ w.heap.size ≤ x) (h : Post v g M1 F1 Z1 w1 e w2) : Post v g M1 F Z1 w e w2 := by
  obtain ⟨he, F2, h1, h2, h3⟩ := h
  refine ⟨he, F2, h1, c.trans h2 hf, fun x hx => ?_⟩
  rcases h3 x hx with h4 | h4
  · exact hf x h4
  · exact .inr (Nat.le_trans c.size h4)
theorem Post.more {w w1 : World} {g Z Z1 : Nat} {M : List (List UInt8 × Bool)} {F : List Nat} {v : Value} {e : Ending} (h : Post v g M F Z w e w1) (hZ : Z ≤ Z1) : Post v g M F Z1 w e w1 := by
  obtain ⟨he, F2, h1, h2, h3⟩ := h
  exact ⟨he, F2, h1.more hZ, h2, h3⟩
theorem may_of {w : World} {g Z : Nat} {M : List (List UInt8 × Bool)} {F : List Nat} (h : Rep w g M F Z) (hZ : Z ≤ 1000) (i : Nat) (b : List UInt8 × Bool) (hb : M[i]? = some b) (s : List UInt8) (hs : s.length = 64) :
    Calls Try.prog 14 #[pv g, .int .i64 i, sv s] w (Ret (.bool (mayOf b s)) w) := may_in h hZ i b hb s hs
theorem two_after {w w1 : World} {F F2 : List Nat} (n : Nw w w1) (h : ∀ x ∈ F2, x ∈ F ∨ w1.heap.size ≤ x) : ∀ x ∈ F2, x ∈ F ∨ w.heap.size ≤ x := fun x hx => by
  rcases h x hx with h1 | h1
  · exact .inl h1
  · exact .inr (Nat.le_trans n.size h1)
set_option maxHeartbeats 4000000 in
theorem does_any {w : World} {g Z : Nat} {M : List (List UInt8 × Bool)} {F : List Nat} (h : Rep w g M F Z) (hZ : Z ≤ 900) (hm : M.length ≤ 96) (i : Nat) (b : List UInt8 × Bool) (hb : M[i]? = some b) (o : Op) (hs : o.s.length = 64) :
    Calls Try.prog 25 #[pv g, ov o, .int .i64 i] w (Post (.bool (doesR b o)) g (doesM M i b o) F (Z + 1) w) := by
  obtain ⟨k, bk, s⟩ := o
  simp only at hs
  obtain ⟨w1, hw1⟩ : ∃ w1, w1 = w.alloc (.cells (oc ⟨k, bk, s⟩).toArray 43) := ⟨_, rfl⟩
  have n1 : Nw w w1 := by rw [hw1]; exact World.grownBy_alloc w _ none
  have ob : Obj1 w1 w.heap.size 43 (oc ⟨k, bk, s⟩).toArray := by rw [hw1]; exact Obj1.new w _ _
  have hv : w.heap.size ∉ F := fun hm => by have := h.lt _ hm; omega
  have R1 := Lib.hid (h.nw n1); have HV := Lib.hid hv; have OB := Lib.hid ob; have N1 := Lib.hid n1
  have HB := Lib.hid hb; have HS := Lib.hid hs; have HMM := Lib.hid hm
  have hk1 : (w.alloc (.cells (oc ⟨k, bk, s⟩).toArray 43)).cell? ⟨w.heap.size, 0, none⟩ = some (.int .i64 k) := by rw [← hw1]; exact OB.out.cell 0
  have HW := Lib.hid hw1
  clear h hb hs hm n1 ob hv hw1
  obtain ⟨R, hR⟩ : ∃ R, doesR b ⟨k, bk, s⟩ = R := ⟨_, rfl⟩
  obtain ⟨M', hM⟩ : ∃ M', doesM M i b ⟨k, bk, s⟩ = M' := ⟨_, rfl⟩
  rw [hR, hM]
  have HRR := Lib.hid hR; have HM' := Lib.hid hM
  clear hR hM
  unfold ov
  unfold pv
  rcases (show k = 1 ∨ k = 2 ∨ k = 3 ∨ k = 4 ∨ (k ≠ 1 ∧ k ≠ 2 ∧ k ≠ 3 ∧ k ≠ 4) from by omega) with rfl | rfl | rfl | rfl | ⟨h1, h2, h3, h4⟩
  · go_enter Try.func25, Try.ntmps25
    go_wp2_with (first | (refine wpList_load_agg 27 _ rfl rfl rfl (s.map bv) (by rw [← HW.out]; exact op_load OB.out) _ Try.underlying27 rfl (i27.trans (by rw [List.length_map, HS.out])) ?_) |
      (rw [← HW.out]; refine (write_ok R1.out (by omega) i b HB.out s HS.out).mono ?_; intro e w2 h2; have H2 := Lib.hid (Post.after (Chg.of_nw N1.out) (fun x hx => .inl hx) h2); obtain ⟨rfl, F2, r2, c2, f2⟩ := h2; have R2 := Lib.hid r2; have C2 := Lib.hid c2; have F2' := Lib.hid f2; have OB2 := Lib.hid (OB.out.chg c2 HV.out); clear r2 c2 f2))
    go_ret
    have e1 : R = true := HRR.out.symm
    have e2 : M' = M.set i (b.1 ++ s, false) := HM'.out.symm
    rw [e1, e2]
    obtain ⟨_, a⟩ := H2.out
    exact ⟨rfl, a⟩
  · go_enter Try.func25, Try.ntmps25
    go_wp2_with (first | (refine (may_of R2.out (by omega) i (flushB b) (by rw [List.getElem?_map, HB.out]; rfl) s HS.out).mono ?_; rintro e w3 ⟨rfl, n3⟩; have N3 := Lib.hid n3; clear n3) |
      (refine wpList_load_agg 27 _ rfl rfl rfl (s.map bv) (op_load OB2.out) _ Try.underlying27 rfl (i27.trans (by rw [List.length_map, HS.out])) ?_) |
      (rw [← HW.out]; refine (flush_any R1.out HMM.out (by omega)).mono ?_; intro e w2 h2; have H2 := Lib.hid (Post.after (Chg.of_nw N1.out) (fun x hx => .inl hx) h2); obtain ⟨rfl, F2, r2, c2, f2⟩ := h2; have R2 := Lib.hid r2; have C2 := Lib.hid c2; have F2' := Lib.hid f2; have OB2 := Lib.hid (OB.out.chg c2 HV.out); clear r2 c2 f2))
    go_ret
    have e1 : R = mayOf (flushB b) s := HRR.out.symm
    have e2 : M' = M.map flushB := HM'.out.symm
    rw [e1, e2]
    obtain ⟨_, F3, a1, a2, a3⟩ := (Post.same R2.out N3.out (.bool (mayOf (flushB b) s))).after ((Chg.of_nw N1.out).trans C2.out (fun x hx => .inl hx)) (two_after N1.out F2'.out)
    exact ⟨rfl, F3, a1.more (Nat.le_succ Z), a2, a3⟩
  · go_enter Try.func25, Try.ntmps25
    go_wp2_with (first | (refine (may_of R2.out (by omega) i (fallB b) (by rw [List.getElem?_map, HB.out]; rfl) s HS.out).mono ?_; rintro e w3 ⟨rfl, n3⟩; have N3 := Lib.hid n3; clear n3) |
      (refine wpList_load_agg 27 _ rfl rfl rfl (s.map bv) (op_load OB2.out) _ Try.underlying27 rfl (i27.trans (by rw [List.length_map, HS.out])) ?_) |
      (rw [← HW.out]; refine (fall_any R1.out HMM.out).mono ?_; intro e w2 h2; have H2 := Lib.hid (Post.after (Chg.of_nw N1.out) (fun x hx => .inl hx) h2); obtain ⟨rfl, F2, r2, c2, f2⟩ := h2; have R2 := Lib.hid r2; have C2 := Lib.hid c2; have F2' := Lib.hid f2; have OB2 := Lib.hid (OB.out.chg c2 HV.out); clear r2 c2 f2))
    go_ret
    have e1 : R = mayOf (fallB b) s := HRR.out.symm
    have e2 : M' = M.map fallB := HM'.out.symm
    rw [e1, e2]
    obtain ⟨_, F3, a1, a2, a3⟩ := (Post.same R2.out N3.out (.bool (mayOf (fallB b) s))).after ((Chg.of_nw N1.out).trans C2.out (fun x hx => .inl hx)) (two_after N1.out F2'.out)
    exact ⟨rfl, F3, a1.more (Nat.le_succ Z), a2, a3⟩
  · go_enter Try.func25, Try.ntmps25
    go_wp2_with (first | (refine wpList_load_agg 27 _ rfl rfl rfl (s.map bv) (by rw [← HW.out]; exact op_load OB.out) _ Try.underlying27 rfl (i27.trans (by rw [List.length_map, HS.out])) ?_) |
      (rw [← HW.out]; refine (settle_in R1.out (by omega) i b HB.out s HS.out).mono ?_; intro e w2 h2; have H2 := Lib.hid (Post.after (Chg.of_nw N1.out) (fun x hx => .inl hx) h2); obtain ⟨rfl, F2, r2, c2, f2⟩ := h2; have R2 := Lib.hid r2; have C2 := Lib.hid c2; have F2' := Lib.hid f2; have OB2 := Lib.hid (OB.out.chg c2 HV.out); clear r2 c2 f2))
    go_ret
    have e1 : R = mayOf b s := HRR.out.symm
    have e2 : M' = M.set i (settleB b s) := HM'.out.symm
    rw [e1, e2]
    obtain ⟨_, F3, a1, a2, a3⟩ := H2.out
    exact ⟨rfl, F3, a1.more (Nat.le_succ Z), a2, a3⟩
  · have b1 : (k == 1) = false := by simpa using h1
    have b2 : (k == 2) = false := by simpa using h2
    have b3 : (k == 3) = false := by simpa using h3
    have b4 : (k == 4) = false := by simpa using h4
    go_enter Try.func25, Try.ntmps25
    go_wp2_with (first | (refine wpList_load_agg 27 _ rfl rfl rfl (s.map bv) (by rw [← HW.out]; exact op_load OB.out) _ Try.underlying27 rfl (i27.trans (by rw [List.length_map, HS.out])) ?_) |
      (rw [← HW.out]; refine (may_of R1.out (by omega) i b HB.out s HS.out).mono ?_; rintro e w3 ⟨rfl, n3⟩; have N3 := Lib.hid n3; clear n3))
    go_ret
    have e1 : R = mayOf b s := by rw [← HRR.out]; simp [doesR, h1, h2, h3]
    have e2 : M' = M := by rw [← HM'.out]; simp [doesM, h1, h2, h3, h4]
    rw [e1, e2]
    obtain ⟨_, F3, a1, a2, a3⟩ := (Post.same R1.out N3.out (.bool (mayOf b s))).after (Chg.of_nw N1.out) (fun x hx => .inl hx)
    exact ⟨rfl, F3, a1.more (Nat.le_succ Z), a2, a3⟩
end Go.Proofs.Ytblkdmnfmnbbeaa

