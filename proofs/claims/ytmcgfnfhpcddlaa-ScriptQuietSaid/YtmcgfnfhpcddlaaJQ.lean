/- The toy in memory, and whether it lies now. -/
import Derived.Test.YtmcgfnfhpcddlaaJO
import Derived.Test.YtmcgfnfhpcddlaaJP
import Derived.Test.YtmcgfnfhpcddlaaJA
set_option linter.unusedVariables false
set_option linter.unusedSimpArgs false
/- The toy in memory, and whether it lies now. -/
namespace Go.Proofs.Ytmcgfnfhpcddlaa
open Go.RowKit Go.BW
open Md (secAt)

def toyL (B Lv Nv : Value) (keep : Nat) (at' calls : Int) (lied : Bool) (odd : List UInt8) : List Value := [B, Lv, Nv, .int .u64 (keep : Int), .int .i64 at', .int .i64 calls, .bool lied] ++ odd.map bv
def toyC (B Lv Nv : Value) (keep : Nat) (at' calls : Int) (lied : Bool) (odd : List UInt8) : Array Value := (toyL B Lv Nv keep at' calls lied odd).toArray
theorem toy_odd {w : World} {t : Nat} {B Lv Nv : Value} {keep : Nat} {at' calls : Int} {lied : Bool} {odd : List UInt8} (h : Obj1 w t 35 (toyC B Lv Nv keep at' calls lied odd)) : ∀ j u, (odd.map bv)[j]? = some u → w.cell? ⟨t, 7 + j, none⟩ = some u := fun j u hu => by
  rw [h.cell (7 + j)]
  unfold toyC toyL
  rw [List.getElem?_toArray, List.getElem?_append_right (by simp)]
  rw [show 7 + j - ([B, Lv, Nv, Value.int .u64 (keep : Int), .int .i64 at', .int .i64 calls, .bool lied]).length = j by simp]
  exact hu
theorem toyC_size {B Lv Nv : Value} {keep : Nat} {at' calls : Int} {lied : Bool} {odd : List UInt8} (h : odd.length = 64) : (toyC B Lv Nv keep at' calls lied odd).size = 71 := by simp [toyC, toyL, h]
/-- the toy, its two rows, as told -/
structure TI (w : World) (t b lr lc nr nc : Nat) (p : Par) (S : St) : Prop where
  obj : Obj1 w t 35 (toyC (pv b) (.slice (some ⟨lr, 0, none⟩) p.bl lc) (.slice (some ⟨nr, 0, none⟩) p.bl nc) S.keep p.at' S.calls S.lied p.odd)
  lrow : Own w 0 33 64 (some ⟨lr, 0, none⟩) p.bl lc (S.L.map bv)
  nrow : Own w 0 33 64 (some ⟨nr, 0, none⟩) p.bl nc (S.N.map bv)
  ne : lr ≠ nr
  odd : p.odd.length = 64
  bl : 1 ≤ p.bl ∧ p.bl ≤ 96
  at' : p.at' ≤ 1000000
  keep : S.keep < 18446744073709551616
section
variable {w w' : World} {t b lr lc nr nc : Nat} {p : Par} {S S' : St}
theorem TI.llen (h : TI w t b lr lc nr nc p S) : S.L.length = 64 * p.bl := by have := h.lrow.len; simp at this; omega
theorem TI.nlen (h : TI w t b lr lc nr nc p S) : S.N.length = 64 * p.bl := by have := h.nrow.len; simp at this; omega
theorem TI.lobj (h : TI w t b lr lc nr nc p S) : ∃ cur, Obj1 w lr 33 cur := h.lrow.obj
theorem TI.nobj (h : TI w t b lr lc nr nc p S) : ∃ cur, Obj1 w nr 33 cur := h.nrow.obj
/-- the toy's blocks left as they are -/
theorem TI.eqb (h : TI w t b lr lc nr nc p S) (h1 : w'.heap[t]? = w.heap[t]?) (h2 : w'.heap[lr]? = w.heap[lr]?) (h3 : w'.heap[nr]? = w.heap[nr]?) : TI w' t b lr lc nr nc p S :=
  ⟨h.obj.eq h1, h.lrow.eqb h2, h.nrow.eqb h3, h.ne, h.odd, h.bl, h.at', h.keep⟩
theorem TI.lt (h : TI w t b lr lc nr nc p S) : t < w.heap.size ∧ lr < w.heap.size ∧ nr < w.heap.size := by
  obtain ⟨_, h1⟩ := h.lobj; obtain ⟨_, h2⟩ := h.nobj; exact ⟨h.obj.lt, h1.lt, h2.lt⟩
theorem TI.nw (h : TI w t b lr lc nr nc p S) (k : Nw w w') : TI w' t b lr lc nr nc p S :=
  h.eqb (k.block _ h.lt.1 (by simp)) (k.block _ h.lt.2.1 (by simp)) (k.block _ h.lt.2.2 (by simp))
theorem TI.chg {F : List Nat} (h : TI w t b lr lc nr nc p S) (k : Chg w w' F) (h1 : t ∉ F) (h2 : lr ∉ F) (h3 : nr ∉ F) : TI w' t b lr lc nr nc p S :=
  h.eqb (k.block _ h.lt.1 h1) (k.block _ h.lt.2.1 h2) (k.block _ h.lt.2.2 h3)
/-- its object alone changed -/
theorem TI.own (h : TI w t b lr lc nr nc p S) (k : Chg w w' [t]) (ho : Obj1 w' t 35 (toyC (pv b) (.slice (some ⟨lr, 0, none⟩) p.bl lc) (.slice (some ⟨nr, 0, none⟩) p.bl nc) S'.keep p.at' S'.calls S'.lied p.odd)) (hL : S'.L = S.L) (hN : S'.N = S.N) (hk : S'.keep < 18446744073709551616) : TI w' t b lr lc nr nc p S' := by
  obtain ⟨_, h1⟩ := h.lobj; obtain ⟨_, h2⟩ := h.nobj
  refine ⟨ho, ?_, ?_, h.ne, h.odd, h.bl, h.at', hk⟩
  · rw [hL]; exact h.lrow.eqb (k.block _ h1.lt (fun hm => (h1.ne h.obj (by decide)) (by simpa using hm)))
  · rw [hN]; exact h.nrow.eqb (k.block _ h2.lt (fun hm => (h2.ne h.obj (by decide)) (by simpa using hm)))
theorem TI.drew (h : TI w t b lr lc nr nc p S) : TI w.drew t b lr lc nr nc p S := ⟨h.obj, h.lrow, h.nrow, h.ne, h.odd, h.bl, h.at', h.keep⟩
def LiesPost (t b lr lc nr nc : Nat) (p : Par) (S : St) (w : World) (e : Ending) (w' : World) : Prop := e = .returned (.bool (lieB p S)) ∧ TI w' t b lr lc nr nc p (lieS p S) ∧ Chg w w' [t]
set_option maxHeartbeats 2000000 in
set_option maxRecDepth 100000 in
theorem lies_any (h : TI w t b lr lc nr nc p S) (hc : S.calls ≤ 1000000) : Calls Try.prog 120 #[pv t] w (LiesPost t b lr lc nr nc p S w) := by
  have HT := Lib.hid h
  obtain ⟨L0, hL0⟩ : ∃ L0, S.lied = L0 := ⟨_, rfl⟩
  obtain ⟨q, hq⟩ : ∃ q, lieB p S = q := ⟨_, rfl⟩
  have HQ := Lib.hid hq; have HL0 := Lib.hid hL0
  obtain ⟨C, hC⟩ : ∃ C : Int, (S.calls : Int) = C := ⟨_, rfl⟩
  obtain ⟨D, hD⟩ : ∃ D : Int, (p.at' : Int) = D := ⟨_, rfl⟩
  obtain ⟨C1, hC1⟩ : ∃ C1 : Int, C + 1 = C1 := ⟨_, rfl⟩
  have hw : IntKind.i64.wrap (C + 1) = C1 := by rw [IntKind.wrap_i64]; omega
  have hw' : IntKind.i64.wrap C1 = C1 := by rw [IntKind.wrap_i64]; omega
  have e1 : (C1 == D) = q := by
    rw [← hq]; unfold lieB
    rw [Bool.eq_iff_iff]; simp; omega
  obtain ⟨Bv, hBv⟩ : ∃ Bv, pv b = Bv := ⟨_, rfl⟩
  obtain ⟨Lv, hLv⟩ : ∃ Lv, Value.slice (some ⟨lr, 0, none⟩) p.bl lc = Lv := ⟨_, rfl⟩
  obtain ⟨Nv, hNv⟩ : ∃ Nv, Value.slice (some ⟨nr, 0, none⟩) p.bl nc = Nv := ⟨_, rfl⟩
  have ho := h.obj
  rw [hL0, hC, hD, hBv, hLv, hNv] at ho
  obtain ⟨kp, hkp⟩ : ∃ kp, S.keep = kp := ⟨_, rfl⟩
  rw [hkp] at ho
  have HO := Lib.hid ho
  have c5 : w.cell? ⟨t, 5, none⟩ = some (.int .i64 C) := ho.cell 5
  have f5 := ho.frozen 5
  have o1 : Obj1 (w.setCell ⟨t, 5, none⟩ (.int .i64 C1)) t 35 (toyC Bv Lv Nv kp D C1 L0 p.odd) := ho.set 5 (.int .i64 C1)
  have HC := Lib.hid hC; have HD := Lib.hid hD; have HC1 := Lib.hid hC1; have HB := Lib.hid hBv; have HL := Lib.hid hLv; have HN := Lib.hid hNv; have HKP := Lib.hid hkp
  have HLie := Lib.hid (show (lieS p S).lied = (L0 || q) from by show (S.lied || lieB p S) = _; rw [hL0, hq])
  unfold pv
  clear h hc hC hD hC1 hBv hLv hNv hkp ho hq hL0
  go_enter Try.func120, Try.ntmps120
  go_upto_region 2 with fail
  obtain ⟨w1, hw1⟩ : ∃ w1, w.setCell ⟨t, 5, none⟩ (.int .i64 C1) = w1 := ⟨_, rfl⟩
  have k1 : Chg w w1 [t] := by rw [← hw1]; exact Chg.set w (by simp) _
  have K1 := Lib.hid k1
  rw [hw1] at o1 ⊢
  clear hw1 c5 f5 k1
  have O1 := Lib.hid o1; clear o1
  have d5 : ∀ w', Nw w1 w' → w'.cell? ⟨t, 5, none⟩ = some (.int .i64 C1) := fun w' k => (O1.out.nw k).cell 5
  have d4 : ∀ w', Nw w1 w' → w'.cell? ⟨t, 4, none⟩ = some (.int .i64 D) := fun w' k => (O1.out.nw k).cell 4
  have d6 : ∀ w', Nw w1 w' → w'.cell? ⟨t, 6, none⟩ = some (.bool L0) := fun w' k => (O1.out.nw k).cell 6
  have s6 : w1.drew.cell? ⟨t, 6, none⟩ = some (.bool L0) := O1.out.cell 6
  have s6f : w1.drew.frozen? ⟨t, 6, none⟩ = false := O1.out.frozen 6
  rcases L0 with _ | _
  · skip
    refine wp_region_U [17, 18] (fun w' => Nw w1 w') (by kernel_rfl) ?_
    change wpU _ _ _ _ _ _ _ _ _ (World.drew w1)
    refine U_segL (r := [0, 1, 2, 3, 4, 5, 6, 7, 8, 9, 10, 11, 12, 13, 14, 15, 16, 17]) (fuel := 1) rfl (by kernel_rfl) (by kernel_rfl) (by simp only [List.filterMap_cons, List.filterMap_nil, List.getElem?_toArray, List.getElem?_cons_succ, List.getElem?_cons_zero]; rfl) (fun _ _ d _ _ h => by cases d <;> exact h) (gb_drew (Nw.refl w1)) ?_
    iterate 18 (refine wpYield_step rfl (fun K hK => ?_)
                apply Exists.intro
                refine ⟨fun w' hw' => ?_, ?_⟩
                · (go_simp; try with_reducible rfl)
                go_simp
                refine hK _ ?_
                clear hK K)
    refine wpYield_nil ?_
    refine U_eff 18 rfl (by kernel_rfl) rfl (fun K hK => ?_)
    go_simp
    refine hK _ _ ⟨until_past (by kernel_rfl), ?_⟩
    clear hK K d5 d4 d6
    refine U_done (by kernel_rfl) ?_ _
    have o2 : Obj1 (w1.setCell ⟨t, 6, none⟩ (.bool q)).drew t 35 (toyC Bv Lv Nv kp D C1 q p.odd) := O1.out.set 6 (.bool q)
    have K2 := Lib.hid (K1.out.trans (Chg.set w1 (F := [t]) (p := ⟨t, 6, none⟩) (by simp) (.bool q)) (fun x hx => .inl hx)).drew
    clear s6 s6f
    generalize (w1.setCell ⟨t, 6, none⟩ (.bool q)).drew = w2 at o2 K2 ⊢
    have O2 := Lib.hid o2; clear o2
    have d5 : ∀ w', Nw w2 w' → w'.cell? ⟨t, 5, none⟩ = some (.int .i64 C1) := fun w' k => (O2.out.nw k).cell 5
    have d4 : ∀ w', Nw w2 w' → w'.cell? ⟨t, 4, none⟩ = some (.int .i64 D) := fun w' k => (O2.out.nw k).cell 4
    go_upto_region 3 with fail
    refine wp_region_held (S := (fun w' => Nw w2 w')) (by kernel_rfl) ?_
    change wpAnyH _ _ _ _ _ _ _ _ (World.drew w2)
    refine held_seg' (l := [0, 1, 2, 3, 4, 5, 6, 7, 8, 9]) (fuel := 0) rfl (by kernel_rfl) (by kernel_rfl) (by simp only [List.filterMap_cons, List.filterMap_nil, List.getElem?_toArray, List.getElem?_cons_succ, List.getElem?_cons_zero]; rfl) (fun _ _ d _ _ h => by cases d <;> exact h) (gb_drew (Nw.refl w2)) ?_
    iterate 10 (refine wpYield_step rfl (fun K hK => ?_)
                apply Exists.intro
                refine ⟨fun w' hw' => ?_, ?_⟩
                · (go_simp; try with_reducible rfl)
                go_simp
                refine hK _ ?_
                clear hK K)
    refine wpYield_nil ?_
    refine wpAnyH_done (by kernel_rfl) ?_ _
    go_wp2
    go_ret
    refine ⟨by rw [HQ.out]; rfl, HT.out.own K2.out.drew ?_ rfl rfl HT.out.keep, K2.out.drew⟩
    rw [HB.out, HL.out, HN.out, HLie.out, HD.out, show (lieS p S).keep = kp from HKP.out, show (((lieS p S).calls : Nat) : Int) = C1 from by show ((S.calls + 1 : Nat) : Int) = C1; have := HC.out; have := HC1.out; omega]
    exact O2.out
  · skip
    refine wp_region_U [17, 18] (fun w' => Nw w1 w') (by kernel_rfl) ?_
    change wpU _ _ _ _ _ _ _ _ _ (World.drew w1)
    refine U_segL (r := [0, 1, 2, 3, 4, 5, 6, 7, 8, 9, 10, 11, 12, 13, 14, 15, 16, 17]) (fuel := 1) rfl (by kernel_rfl) (by kernel_rfl) (by simp only [List.filterMap_cons, List.filterMap_nil, List.getElem?_toArray, List.getElem?_cons_succ, List.getElem?_cons_zero]; rfl) (fun _ _ d _ _ h => by cases d <;> exact h) (gb_drew (Nw.refl w1)) ?_
    iterate 6 (refine wpYield_step rfl (fun K hK => ?_)
               apply Exists.intro
               refine ⟨fun w' hw' => ?_, ?_⟩
               · (go_simp; try with_reducible rfl)
               go_simp
               refine hK _ ?_
               clear hK K)
    iterate 9 (refine wpYield_skipK rfl (fun K hK => ?_); go_simp; refine hK _ ?_; clear hK K)
    iterate 3 (refine wpYield_step rfl (fun K hK => ?_)
               apply Exists.intro
               refine ⟨fun w' hw' => ?_, ?_⟩
               · (go_simp; try with_reducible rfl)
               go_simp
               refine hK _ ?_
               clear hK K)
    refine wpYield_nil ?_
    refine U_eff 18 rfl (by kernel_rfl) rfl (fun K hK => ?_)
    go_simp
    refine hK _ _ ⟨until_past (by kernel_rfl), ?_⟩
    clear hK K d5 d4 d6
    refine U_done (by kernel_rfl) ?_ _
    have o2 : Obj1 (w1.setCell ⟨t, 6, none⟩ (.bool true)).drew t 35 (toyC Bv Lv Nv kp D C1 true p.odd) := O1.out.set 6 (.bool true)
    have K2 := Lib.hid (K1.out.trans (Chg.set w1 (F := [t]) (p := ⟨t, 6, none⟩) (by simp) (.bool true)) (fun x hx => .inl hx)).drew
    clear s6 s6f
    generalize (w1.setCell ⟨t, 6, none⟩ (.bool true)).drew = w2 at o2 K2 ⊢
    have O2 := Lib.hid o2; clear o2
    have d5 : ∀ w', Nw w2 w' → w'.cell? ⟨t, 5, none⟩ = some (.int .i64 C1) := fun w' k => (O2.out.nw k).cell 5
    have d4 : ∀ w', Nw w2 w' → w'.cell? ⟨t, 4, none⟩ = some (.int .i64 D) := fun w' k => (O2.out.nw k).cell 4
    go_upto_region 3 with fail
    refine wp_region_held (S := (fun w' => Nw w2 w')) (by kernel_rfl) ?_
    change wpAnyH _ _ _ _ _ _ _ _ (World.drew w2)
    refine held_seg' (l := [0, 1, 2, 3, 4, 5, 6, 7, 8, 9]) (fuel := 0) rfl (by kernel_rfl) (by kernel_rfl) (by simp only [List.filterMap_cons, List.filterMap_nil, List.getElem?_toArray, List.getElem?_cons_succ, List.getElem?_cons_zero]; rfl) (fun _ _ d _ _ h => by cases d <;> exact h) (gb_drew (Nw.refl w2)) ?_
    iterate 10 (refine wpYield_step rfl (fun K hK => ?_)
                apply Exists.intro
                refine ⟨fun w' hw' => ?_, ?_⟩
                · (go_simp; try with_reducible rfl)
                go_simp
                refine hK _ ?_
                clear hK K)
    refine wpYield_nil ?_
    refine wpAnyH_done (by kernel_rfl) ?_ _
    go_wp2
    go_ret
    refine ⟨by rw [HQ.out]; rfl, HT.out.own K2.out.drew ?_ rfl rfl HT.out.keep, K2.out.drew⟩
    rw [HB.out, HL.out, HN.out, HLie.out, HD.out, show (lieS p S).keep = kp from HKP.out, show (((lieS p S).calls : Nat) : Int) = C1 from by show ((S.calls + 1 : Nat) : Int) = C1; have := HC.out; have := HC1.out; omega]
    exact O2.out
end
end Go.Proofs.Ytmcgfnfhpcddlaa


/- The toy's Read. -/
namespace Go.Proofs.Ytmcgfnfhpcddlaa
open Go.RowKit Go.BW
open Md (secAt)

section
variable {w w' : World} {t b lr lc nr nc : Nat} {p : Par} {S S' : St}
def ReadV (p : Par) (S : St) (k : Nat) : List UInt8 × Int := if p.bl ≤ k then (z64, if lieB p S then 0 else 3) else (if lieB p S then p.odd else secAt S.N k, 0)
def ReadPost (t b lr lc nr nc : Nat) (p : Par) (S : St) (k : Nat) (w : World) (e : Ending) (w' : World) : Prop :=
  e = .returned (.tuple #[.agg ((ReadV p S k).1.map bv).toArray, .int .i64 (ReadV p S k).2]) ∧ TI w' t b lr lc nr nc p (lieS p S) ∧ Chg w w' [t]
theorem z64v : Md.z64 = .agg (z64.map bv).toArray := by kernel_rfl
theorem info33 : ∃ i, Try.prog.info? 33 = some i ∧ i.zero = some (.agg (z64.map bv).toArray) := by
  obtain ⟨i, hi, hz, _⟩ := Md.T22.info
  exact ⟨i, hi, by rw [hz, z64v]⟩
/-- a sector's variable behind what changes the toy alone -/
theorem own_t {x : Nat} {cs : List Value} (h : Own w 0 33 64 (some ⟨x, 0, none⟩) 1 1 cs) (k : Chg w w' [t]) (ho : ∃ cs, Obj1 w t 35 cs) : Obj1 w' x 33 cs.toArray := by
  have h1 : Obj1 w x 33 cs.toArray := h.row1'
  obtain ⟨_, ho⟩ := ho
  exact h1.chg k (fun hm => (h1.ne ho (by decide)) (by simpa using hm))
theorem read_fin {x : Nat} {zs v : List UInt8} {e1 : Int} {k : Nat} {w1 w2 w9 : World} (n1 : Nw w w1) (h2 : TI w2 t b lr lc nr nc p (lieS p S)) (k2 : Chg w1 w2 [t]) (ox : Obj1 w2 x 33 (zs.map bv).toArray) (hx : w.heap.size ≤ x) (g9 : w2.grownBy w9 (some x)) (hlt : lr < w.heap.size ∧ nr < w.heap.size) (hv : ReadV p S k = (v, e1)) :
    ReadPost t b lr lc nr nc p S k w (.returned (.tuple #[.agg (v.map bv).toArray, .int .i64 e1])) w9 := by
  refine ⟨by rw [hv], ?_, ?_⟩
  · refine h2.eqb (g9.block _ h2.lt.1 (fun e => by injection e with e; exact (h2.obj.ne ox (by decide)) e)) (g9.block _ h2.lt.2.1 (fun e => by injection e with e; omega)) (g9.block _ h2.lt.2.2 (fun e => by injection e with e; omega))
  · have c1 : Chg w w2 [t] := (Chg.of_nw n1).trans k2 (fun _ h => .inl h)
    have c2 : Chg w2 w9 [x] := Chg.of_gb g9 (by intro q e; injection e with e; simp [e])
    exact c1.trans c2 (fun y hy => .inr (by simp at hy; omega))
def LiesP2 (t b lr lc nr nc : Nat) (p : Par) (S : St) (x : Nat) (cs : List Value) (w : World) (e : Ending) (w' : World) : Prop :=
  e = .returned (.bool (lieB p S)) ∧ TI w' t b lr lc nr nc p (lieS p S) ∧ Chg w w' [t] ∧ Obj1 w' x 33 cs.toArray ∧ w'.cell? ⟨t, 2, none⟩ = some (.slice (some ⟨nr, 0, none⟩) p.bl nc)
theorem lies2_any (h : TI w t b lr lc nr nc p S) (hc : S.calls ≤ 1000000) (w1 : World) (x : Nat) (cs : List Value) (n1 : Nw w w1) (ox : Own w1 0 33 64 (some ⟨x, 0, none⟩) 1 1 cs) : Calls Try.prog 120 #[pv t] w1 (LiesP2 t b lr lc nr nc p S x cs w1) :=
  (lies_any (h.nw n1) hc).mono fun e w2 he => ⟨he.1, he.2.1, he.2.2, own_t ox he.2.2 ⟨_, (h.nw n1).obj⟩, he.2.1.obj.cell 2⟩
set_option maxHeartbeats 2000000 in
set_option maxRecDepth 100000 in
theorem read_any (h : TI w t b lr lc nr nc p S) (hc : S.calls ≤ 1000000) (k : Nat) : Calls Try.prog 116 #[pv t, .int .i64 k] w (ReadPost t b lr lc nr nc p S k w) := by
  have HT := Lib.hid h
  have HLI := Lib.hid (fun w1 x cs => lies2_any h hc w1 x cs)
  obtain ⟨i0, hi0, hz0⟩ := info33
  have H0 := Lib.hid hi0
  obtain ⟨zb, hzb⟩ : ∃ zb, z64 = zb := ⟨_, rfl⟩
  rw [hzb] at hz0
  have HZ := Lib.hid hz0; have HZB := Lib.hid hzb
  have hzs : (Value.agg (zb.map bv).toArray).cells.size = 64 := by rw [← hzb]; kernel_rfl
  have HZS := Lib.hid hzs
  have HZL := Lib.hid (show zb.length = 64 from by rw [← hzb]; rfl)
  obtain ⟨q, hq⟩ : ∃ q, lieB p S = q := ⟨_, rfl⟩
  have HQ := Lib.hid hq
  obtain ⟨N, hN⟩ : ∃ N, p.bl = N := ⟨_, rfl⟩
  have HN := Lib.hid hN
  have hnk : (0 : Int) ≤ (k : Int) := by omega
  have dk : decide ((k : Int) < 0) = false := decide_eq_false (by omega)
  unfold pv LiesP2 at HLI
  rw [hq, hN] at HLI
  have HND := Lib.hid (show N ≤ 96 from by have := h.bl; omega)
  unfold pv
  clear h hi0 hz0 hzb hzs hq
  rcases (show N ≤ k ∨ k < N by omega) with hk | hk
  · have dk2 : decide ((N : Int) ≤ (k : Int)) = true := decide_eq_true (by omega)
    have HKK := Lib.hid hk
    rcases q with _ | _
    all_goals
      · go_enter Try.func116, Try.ntmps116
        go_wp2_with (first
          | (refine wpList_store_obj 33 _ _ rfl rfl (zb.map bv) rfl rfl rfl (i33' HZL.out) (sec_one _) V2.out (by rw [List.size_toArray, Array.length_toList, HZS.out, List.length_map, HZL.out]) ?_; intro w9 s9 g9)
          | (refine wpList_build0 33 rfl rfl i0 (zb.map bv).toArray H0.out HZ.out 64 5 Try.underlying33 (by kernel_rfl) ?_)
          | (go_at_call 120; refine (HLI.out _ _ _ n1 ov).mono ?_; rintro e w2 ⟨rfl, h2, k2, v2, c2⟩; have T2 := Lib.hid h2; have K2 := Lib.hid k2; have V2 := Lib.hid v2; have N1 := Lib.hid n1; clear h2 k2 v2 ov)
          | (refine wpList_alloc (size := 64) 33 rfl rfl 0 i0 H0.out HZ.out HZS.out (Nat.zero_le _) ?_; intro v w1 ov n1 hv; have HV := Lib.hid hv; clear hv))
        refine bodyPost_ret (res_cell_tmp rfl _ _ _ 33 _ _ rfl s9 Try.underlying33 rfl (by rw [List.size_toArray]; exact i33' HZL.out)) rfl ?_
        exact read_fin N1.out T2.out K2.out V2.out HV.out g9 ⟨HT.out.lt.2.1, HT.out.lt.2.2⟩ (by unfold ReadV; rw [HN.out, if_pos HKK.out, HQ.out]; rw [HZB.out]; rfl)
  · have dk2 : decide ((N : Int) ≤ (k : Int)) = false := decide_eq_false (by omega)
    have dk3 : (k : Int) < (N : Int) := by omega
    have HKK := Lib.hid (show ¬ N ≤ k by omega)
    rcases q with _ | _
    · obtain ⟨sk, hsk⟩ : ∃ sk, secAt S.N k = sk := ⟨_, rfl⟩
      have HSK := Lib.hid hsk
      have hl : sk.length = 64 := by rw [← hsk]; exact Md.secAt_len (n := N) (by have := HT.out.nlen; rw [HN.out] at this; omega) hk
      have HSL := Lib.hid hl
      have LD := Lib.hid (show ∀ w2, TI w2 t b lr lc nr nc p (lieS p S) → ∀ j u, (sk.map bv)[j]? = some u → w2.cell? ⟨nr, k * 64 + j, none⟩ = some u from fun w2 h2 j u hu => by
        rw [← HSK.out] at hu
        have := Md.secAt_cell (off := 0) (h2.nrow.rd) (i := k) (by rw [HN.out]; exact hk) j u hu
        rw [Nat.zero_add] at this; exact this)
      clear hsk hl
      · go_enter Try.func116, Try.ntmps116
        go_wp2_with (first
          | (refine wpList_store_obj 33 _ _ rfl rfl (sk.map bv) rfl rfl rfl (i33' HSL.out) (sec_one _) V2.out (by rw [List.size_toArray, Array.length_toList, HZS.out, List.length_map, HSL.out]) ?_; intro w9 s9 g9)
          | (refine wpList_load_agg 33 _ rfl rfl rfl (sk.map bv) (fun j u hu => LD.out _ T2.out j u hu) _ Try.underlying33 rfl (i33' HSL.out) ?_)
          | (go_at_call 120; refine (HLI.out _ _ _ n1 ov).mono ?_; rintro e w2 ⟨rfl, h2, k2, v2, c2⟩; have T2 := Lib.hid h2; have K2 := Lib.hid k2; have V2 := Lib.hid v2; have N1 := Lib.hid n1; clear h2 k2 v2 ov)
          | (refine wpList_alloc (size := 64) 33 rfl rfl 0 i0 H0.out HZ.out HZS.out (Nat.zero_le _) ?_; intro v w1 ov n1 hv; have HV := Lib.hid hv; clear hv))
        refine bodyPost_ret (res_cell_tmp rfl _ _ _ 33 _ _ rfl s9 Try.underlying33 rfl (by rw [List.size_toArray]; exact i33' HSL.out)) rfl ?_
        exact read_fin N1.out T2.out K2.out V2.out HV.out g9 ⟨HT.out.lt.2.1, HT.out.lt.2.2⟩ (by unfold ReadV; rw [HN.out, if_neg HKK.out, HQ.out]; rw [if_neg Bool.false_ne_true, HSK.out])
    · obtain ⟨od, hod⟩ : ∃ od, p.odd = od := ⟨_, rfl⟩
      have HOD := Lib.hid hod
      have HOL := Lib.hid (show od.length = 64 from by rw [← hod]; exact HT.out.odd)
      have LD := Lib.hid (show ∀ w2, TI w2 t b lr lc nr nc p (lieS p S) → ∀ j u, (od.map bv)[j]? = some u → w2.cell? ⟨t, 7 + j, none⟩ = some u from fun w2 h2 j u hu => by
        rw [← HOD.out] at hu
        exact toy_odd h2.obj j u hu)
      clear hod
      · go_enter Try.func116, Try.ntmps116
        go_wp2_with (first
          | (refine wpList_store_obj 33 _ _ rfl rfl (od.map bv) rfl rfl rfl (i33' HOL.out) (sec_one _) V2.out (by rw [List.size_toArray, Array.length_toList, HZS.out, List.length_map, HOL.out]) ?_; intro w9 s9 g9)
          | (refine wpList_load_agg 33 _ rfl rfl rfl (od.map bv) (fun j u hu => LD.out _ T2.out j u hu) _ Try.underlying33 rfl (i33' HOL.out) ?_)
          | (go_at_call 120; refine (HLI.out _ _ _ n1 ov).mono ?_; rintro e w2 ⟨rfl, h2, k2, v2, c2⟩; have T2 := Lib.hid h2; have K2 := Lib.hid k2; have V2 := Lib.hid v2; have N1 := Lib.hid n1; clear h2 k2 v2 ov)
          | (refine wpList_alloc (size := 64) 33 rfl rfl 0 i0 H0.out HZ.out HZS.out (Nat.zero_le _) ?_; intro v w1 ov n1 hv; have HV := Lib.hid hv; clear hv))
        refine bodyPost_ret (res_cell_tmp rfl _ _ _ 33 _ _ rfl s9 Try.underlying33 rfl (by rw [List.size_toArray]; exact i33' HOL.out)) rfl ?_
        exact read_fin N1.out T2.out K2.out V2.out HV.out g9 ⟨HT.out.lt.2.1, HT.out.lt.2.2⟩ (by unfold ReadV; rw [HN.out, if_neg HKK.out, HQ.out]; rw [if_pos rfl, HOD.out])
end
end Go.Proofs.Ytmcgfnfhpcddlaa


/- The toy on its bank: New, the power, Step, Add, Status. -/
namespace Go.Proofs.Ytmcgfnfhpcddlaa
open Go.RowKit Go.BW
open Md (secAt)

/-- where the toy and its bank lie -/
structure Ly where
  t : Nat
  b : Nat
  lr : Nat
  lc : Nat
  nr : Nat
  nc : Nat
  A : Option Addr
  c : Nat
  ms : List Mem
/-- the toy and its bank -/
structure TB (w : World) (y : Ly) (dn : Bool) (p : Par) (S : St) : Prop where
  ti : TI w y.t y.b y.lr y.lc y.nr y.nc p S
  bk : BankI w y.b dn (S.ar : Int) y.A y.c y.ms
  nd : y.ms.length = S.nd
  lo : y.lr ∉ fpB y.b y.ms
  no : y.nr ∉ fpB y.b y.ms
section
variable {w w' : World} {y : Ly} {dn dn' : Bool} {p : Par} {S S' : St}
theorem TB.to (h : TB w y dn p S) : y.t ∉ fpB y.b y.ms := h.bk.not h.ti.obj (by decide) (by decide) (by decide) (by decide)
theorem TB.nw (h : TB w y dn p S) (k : Nw w w') : TB w' y dn p S := ⟨h.ti.nw k, h.bk.nw k, h.nd, h.lo, h.no⟩
theorem TB.bstep (h : TB w y dn p S) {ar : Nat} (k : BStep y.b y.A y.c y.ms dn' (ar : Int) w w') : TB w' y dn' p { S with ar := ar } := by
  have t1 := h.ti.chg k.chg h.to h.lo h.no
  exact ⟨⟨t1.obj, t1.lrow, t1.nrow, t1.ne, t1.odd, t1.bl, t1.at', t1.keep⟩, k.bank h.bk, h.nd, h.lo, h.no⟩
/-- the toy's own doing -/
theorem TB.tstep {lr lc nr nc : Nat} {F : List Nat} (h : TB w y dn p S) (k : Chg w w' F) (hF : ∀ x ∈ F, x = y.t ∨ x = y.lr ∨ x = y.nr) (t1 : TI w' y.t y.b lr lc nr nc p S') (ha : S'.ar = S.ar) (hn : S'.nd = S.nd) (hl : lr = y.lr ∨ lr = y.nr ∨ w.heap.size ≤ lr) (hr : nr = y.lr ∨ nr = y.nr ∨ w.heap.size ≤ nr) :
    TB w' ⟨y.t, y.b, lr, lc, nr, nc, y.A, y.c, y.ms⟩ dn p S' := by
  refine ⟨t1, ?_, h.nd.trans hn.symm, ?_, ?_⟩
  · rw [ha]
    refine h.bk.far k (fun x hx hm => ?_) (fun r hr hm => ?_)
    · rcases hF x hm with e | e | e
      · exact h.to (e ▸ hx)
      · exact h.lo (e ▸ hx)
      · exact h.no (e ▸ hx)
    · obtain ⟨cur, hc⟩ := h.bk.row.rowObj r hr
      obtain ⟨_, o1⟩ := h.ti.lobj; obtain ⟨_, o2⟩ := h.ti.nobj
      rcases hF r hm with e | e | e
      · exact (hc.ne h.ti.obj (by decide)) e
      · exact (hc.ne o1 (by decide)) e
      · exact (hc.ne o2 (by decide)) e
  · rcases hl with e | e | e
    · show lr ∉ _; rw [e]; exact h.lo
    · show lr ∉ _; rw [e]; exact h.no
    · intro hm; have hlt : lr < w.heap.size := h.bk.lt _ hm; omega
  · rcases hr with e | e | e
    · show nr ∉ _; rw [e]; exact h.lo
    · show nr ∉ _; rw [e]; exact h.no
    · intro hm; have hlt : nr < w.heap.size := h.bk.lt _ hm; omega
theorem TB.lies (h : TB w y dn p S) (k : Chg w w' [y.t]) (t1 : TI w' y.t y.b y.lr y.lc y.nr y.nc p (lieS p S)) : TB w' y dn p (lieS p S) :=
  h.tstep k (fun x hx => .inl (by simpa using hx)) t1 rfl rfl (.inl rfl) (.inr (.inl rfl))
def fpT (y : Ly) : List Nat := y.t :: y.lr :: y.nr :: fpB y.b y.ms
def PowPost (y : Ly) (p : Par) (S : St) (w : World) (e : Ending) (w' : World) : Prop := e = .returned (.bool (powD S)) ∧ TB w' y (powD S) p (powS S) ∧ Chg w w' (fpB y.b y.ms)
set_option maxHeartbeats 1000000 in
set_option maxRecDepth 100000 in
theorem power_any (h : TB w y false p S) (hn : 1 ≤ S.nd ∧ S.nd ≤ 30) (ha : S.ar ≤ 1000) : Calls Try.prog 121 #[pv y.t] w (PowPost y p S w) := by
  have HT := Lib.hid h
  obtain ⟨i0, hi0, hz0⟩ := info33
  have H0 := Lib.hid hi0
  obtain ⟨zb, hzb⟩ : ∃ zb, z64 = zb := ⟨_, rfl⟩
  rw [hzb] at hz0
  have HZ := Lib.hid hz0
  have HZL : zb.length = 64 := by rw [← hzb]; rfl
  have hms : y.ms ≠ [] := by intro e; have := h.nd; rw [e] at this; simp at this; omega
  have HW := bwrite_any h.bk hms (by have := h.nd; omega) ha zb HZL
  have c0 : w.cell? ⟨y.t, 0, none⟩ = some (pv y.b) := h.ti.obj.cell 0
  have C0 := Lib.hid (show ∀ w2, BStep y.b y.A y.c y.ms (decide (S.ar = 1)) ((S.ar - 1 : Nat) : Int) w w2 → w2.cell? ⟨y.t, 0, none⟩ = some (pv y.b) from fun w2 q => (h.bstep q).ti.obj.cell 0)
  have HU := Lib.hid (show ∀ w2, BStep y.b y.A y.c y.ms (decide (S.ar = 1)) ((S.ar - 1 : Nat) : Int) w w2 → Calls Try.prog 28 #[pv y.b] w2 fun e w' => e = .returned (.bool (!decide (S.ar = 1))) ∧ w2 = w' from fun w2 q => up_any (q.bank h.bk))
  obtain ⟨d, hd⟩ : ∃ d, decide (S.ar = 1) = d := ⟨_, rfl⟩
  have HD := Lib.hid hd
  unfold WrPost at HW
  rw [hd] at HW C0 HU
  unfold pv at HW C0 HU c0 ⊢
  have HW' := Lib.hid HW
  clear h hi0 hz0 hzb hms HW HZL hn ha hd
  go_enter Try.func121, Try.ntmps121
  go_wp2_with (first
    | (go_at_call 28; refine (HU.out _ q1).mono ?_; rintro e w3 ⟨rfl, rfl⟩)
    | (go_at_call 122; (with_reducible refine HW'.out.mono ?_); rintro e w2 ⟨⟨v, rfl⟩, q1⟩; have c2 := C0.out _ q1)
    | (refine wpList_build0 33 rfl rfl i0 (zb.map bv).toArray H0.out HZ.out 64 5 Try.underlying33 (by kernel_rfl) ?_))
  go_ret
  have hp : powD S = d := HD.out
  refine ⟨by rw [hp]; simp, ?_, q1.chg⟩
  rw [hp]
  exact HT.out.bstep q1
end
theorem wpList_mk33 {ops : Array Oper} {rest : List Oper} {o : Oper} {a : Go.Act} {Q : Exit → Go.Act → World → Prop} {w : World} (l c : Operand) (hop : o.op = .makeSlice 30 l c) (hw : Region.wanted o (yielded ops a.tmps) = true) (n : Nat) (hn : 1 ≤ n ∧ n ≤ 4096) (hl : a.eval l = .int .i64 n) (hc : a.eval c = .int .i64 n)
    (hK : ∀ w', Own w' w.heap.size 33 64 (some ⟨w.heap.size, 0, none⟩) n n ((List.replicate (n * 64) (0 : UInt8)).map bv) → Nw w w' → wpList Try.prog ops Q rest (a.put o.dst (.slice (some ⟨w.heap.size, 0, none⟩) n n)) w') : wpList Try.prog ops Q (o :: rest) a w := by
  obtain ⟨w', h1, h2, h3⟩ := make33 n hn w
  exact wpList_ran hw (Md.run_exec_mk l c hop hl hc h1) (hK w' h2 h3)
section
variable {w w' : World} {y : Ly} {dn dn' : Bool} {p : Par} {S S' : St}
/-- a toy that is not begun -/
def Toy0 (w : World) (t keep : Nat) (p : Par) : Prop := Obj1 w t 35 (toyC (.pointer none) (.slice none 0 0) (.slice none 0 0) keep p.at' 0 false p.odd)
theorem size_set (w : World) (q : Addr) (u : Value) : (w.setCell q u).heap.size = w.heap.size := by simp [World.setCell]
def tIf (t : Nat) : Value := .iface 28 (pv t)
def noughts (n : Nat) : List UInt8 := List.replicate (n * 64) 0
def TNewPost (t b keep : Nat) (p : Par) (nd : Nat) (w : World) (e : Ending) (w' : World) : Prop :=
  e = .returned (.tuple #[tIf t, .int .i64 0]) ∧ ∃ lr nr, TI w' t b lr p.bl nr p.bl p (newS p nd keep) ∧ w.heap.size ≤ lr ∧ w.heap.size ≤ nr ∧ Chg w w' [t]
theorem tnew_fin {w w1 w2 w3 w4 w5 : World} {t b keep nd r1 r2 : Nat} {p : Par} (h : Toy0 w t keep p) (hb : 1 ≤ p.bl ∧ p.bl ≤ 96) (ho : p.odd.length = 64) (hat : p.at' ≤ 1000000) (hk : keep < 18446744073709551616) (e1 : w1 = w.setCell ⟨t, 0, none⟩ (pv b))
    (n2 : Nw w1 w2) (l1 : Own w2 w1.heap.size 33 64 (some ⟨r1, 0, none⟩) p.bl p.bl ((noughts p.bl).map bv)) (e3 : w3 = w2.setCell ⟨t, 1, none⟩ (.slice (some ⟨r1, 0, none⟩) p.bl p.bl)) (n4 : Nw w3 w4) (l2 : Own w4 w3.heap.size 33 64 (some ⟨r2, 0, none⟩) p.bl p.bl ((noughts p.bl).map bv))
    (e5 : w5 = w4.setCell ⟨t, 2, none⟩ (.slice (some ⟨r2, 0, none⟩) p.bl p.bl)) (h1 : w1.heap.size ≤ r1) (h2 : w3.heap.size ≤ r2) : TNewPost t b keep p nd w (.returned (.tuple #[tIf t, .int .i64 0])) w5 := by
  have o1 : Obj1 w1 t 35 (toyC (pv b) (.slice none 0 0) (.slice none 0 0) keep p.at' 0 false p.odd) := by rw [e1]; exact Obj1.set h 0 (pv b)
  have o3 : Obj1 w3 t 35 (toyC (pv b) (.slice (some ⟨r1, 0, none⟩) p.bl p.bl) (.slice none 0 0) keep p.at' 0 false p.odd) := by rw [e3]; exact (o1.nw n2).set 1 (.slice (some ⟨r1, 0, none⟩) p.bl p.bl)
  have o5 : Obj1 w5 t 35 (toyC (pv b) (.slice (some ⟨r1, 0, none⟩) p.bl p.bl) (.slice (some ⟨r2, 0, none⟩) p.bl p.bl) keep p.at' 0 false p.odd) := by rw [e5]; exact (o3.nw n4).set 2 (.slice (some ⟨r2, 0, none⟩) p.bl p.bl)
  have g3 : w2.grownBy w3 (some t) := by rw [e3]; exact gb_set _ _ _ _
  have g5 : w4.grownBy w5 (some t) := by rw [e5]; exact gb_set _ _ _ _
  have g1 : w.grownBy w1 (some t) := by rw [e1]; exact gb_set _ _ _ _
  obtain ⟨cu1, q1⟩ := l1.obj
  obtain ⟨cu2, q2⟩ := l2.obj
  have s3 : w3.heap.size = w2.heap.size := by rw [e3]; exact size_set _ _ _
  have l13 : Own w3 0 33 64 (some ⟨r1, 0, none⟩) p.bl p.bl ((noughts p.bl).map bv) := (l1.more (Nat.zero_le _)).eqb (g3.block _ q1.lt (fun e => by injection e with e; exact (q1.ne (o1.nw n2) (by decide)) e))
  have l15 : Own w5 0 33 64 (some ⟨r1, 0, none⟩) p.bl p.bl ((noughts p.bl).map bv) := by
    have l14 := l13.nw n4
    obtain ⟨cu, q⟩ := l14.obj
    exact l14.eqb (g5.block _ q.lt (fun e => by injection e with e; exact (q.ne (o3.nw n4) (by decide)) e))
  have l25 : Own w5 0 33 64 (some ⟨r2, 0, none⟩) p.bl p.bl ((noughts p.bl).map bv) := (l2.more (Nat.zero_le _)).eqb (g5.block _ q2.lt (fun e => by injection e with e; exact (q2.ne (o3.nw n4) (by decide)) e))
  have s1 : w1.heap.size = w.heap.size := by rw [e1]; exact size_set _ _ _
  have z2 := n2.size
  have hz : (newS p nd keep).L = noughts p.bl := by show List.replicate (64 * p.bl) 0 = List.replicate (p.bl * 64) 0; rw [Nat.mul_comm]
  have lt1 := q1.lt
  refine ⟨rfl, r1, r2, ⟨o5, ?_, ?_, by omega, ho, hb, hat, hk⟩, by omega, by omega, ?_⟩
  · rw [hz]; exact l15
  · show Own w5 0 33 64 _ _ _ ((newS p nd keep).L.map bv); rw [hz]; exact l25
  · have c1 : Chg w w1 [t] := Chg.of_gb g1 (by intro q e; injection e with e; simp [e])
    have c3 : Chg w2 w3 [t] := Chg.of_gb g3 (by intro q e; injection e with e; simp [e])
    have c5 : Chg w4 w5 [t] := Chg.of_gb g5 (by intro q e; injection e with e; simp [e])
    exact (((c1.trans (Chg.of_nw n2) (fun _ h => .inl h)).trans c3 (fun _ h => .inl h)).trans (Chg.of_nw n4) (fun _ h => .inl h)).trans c5 (fun _ h => .inl h)
set_option maxHeartbeats 1000000 in
set_option maxRecDepth 100000 in
theorem tnew_any {t b keep nd : Nat} {num : Int} (h : Toy0 w t keep p) (hb : 1 ≤ p.bl ∧ p.bl ≤ 96) (hod : p.odd.length = 64) (hat : p.at' ≤ 1000000) (hk : keep < 18446744073709551616) : Calls Try.prog 114 #[pv t, pv b, .int .i64 num, .int .i64 p.bl] w (TNewPost t b keep p nd w) := by
  have FIN := Lib.hid (fun w1 w2 w3 w4 w5 r1 r2 => @tnew_fin w w1 w2 w3 w4 w5 t b keep nd r1 r2 p h hb hod hat hk)
  obtain ⟨N, hN⟩ : ∃ N, p.bl = N := ⟨_, rfl⟩
  rw [hN] at hb FIN ⊢
  have HB := Lib.hid (show 1 ≤ N ∧ N ≤ 4096 by omega)
  have c0 : w.cell? ⟨t, 0, none⟩ = some (.pointer none) := h.cell 0
  have f0 := Obj1.frozen h 0
  obtain ⟨w1, hw1⟩ : ∃ w1, w.setCell ⟨t, 0, none⟩ (pv b) = w1 := ⟨_, rfl⟩
  have O1 := Lib.hid (show Obj1 w1 t 35 (toyC (pv b) (.slice none 0 0) (.slice none 0 0) keep p.at' 0 false p.odd) from by rw [← hw1]; exact Obj1.set h 0 (pv b))
  have HW1 := Lib.hid hw1
  unfold pv at hw1 ⊢
  clear h hN
  go_enter Try.func114, Try.ntmps114
  go_upto_region 2 with fail
  clear c0 f0
  go_upto_region 3 with (refine wpList_mk33 _ _ rfl rfl N HB.out rfl rfl ?_; intro w2 l1 n2; have L1 := Lib.hid l1; have N2 := Lib.hid n2; have O2 := Lib.hid (O1.out.nw n2); have d1 : w2.cell? ⟨t, 1, none⟩ = some (.slice none 0 0) := O2.out.cell 1; have f1 := O2.out.frozen 1; clear l1 n2)
  obtain ⟨w3, hw3⟩ : ∃ w3, w2.setCell ⟨t, 1, none⟩ (.slice (some ⟨w1.heap.size, 0, none⟩) N N) = w3 := ⟨_, rfl⟩
  have O3 := Lib.hid (show Obj1 w3 t 35 (toyC (pv b) (.slice (some ⟨w1.heap.size, 0, none⟩) N N) (.slice none 0 0) keep p.at' 0 false p.odd) from by rw [← hw3]; exact O2.out.set 1 _)
  have HW3 := Lib.hid hw3
  rw [hw3]
  clear hw3 d1 f1 O2 hw1 O1
  go_wp2_with (refine wpList_mk33 _ _ rfl rfl N HB.out rfl rfl ?_; intro w4 l2 n4; have L2 := Lib.hid l2; have N4 := Lib.hid n4; have O4 := Lib.hid (O3.out.nw n4); have d2 : w4.cell? ⟨t, 2, none⟩ = some (.slice none 0 0) := O4.out.cell 2; have f2 := O4.out.frozen 2; clear l2 n4)
  go_ret2
  exact FIN.out w1 w2 w3 w4 _ w1.heap.size w3.heap.size HW1.out.symm N2.out L1.out HW3.out.symm N4.out L2.out rfl (Nat.le_refl _) (Nat.le_refl _)
end
end Go.Proofs.Ytmcgfnfhpcddlaa


/- The toy's Step, Add and Status. -/
namespace Go.Proofs.Ytmcgfnfhpcddlaa
open Go.RowKit Go.BW
open Md (secAt)

section
variable {w w' : World} {y : Ly} {dn dn' : Bool} {p : Par} {S S' : St}
theorem TB.same (h : TB w y dn p S) (ha : S'.ar = S.ar) (hn : S'.nd = S.nd) (hL : S'.L = S.L) (hN : S'.N = S.N) (hk : S'.keep = S.keep) (hc : S'.calls = S.calls) (hl : S'.lied = S.lied) : TB w y dn p S' := by
  obtain ⟨ar, nd, M, L, N, kp, c, l, g⟩ := S
  obtain ⟨ar', nd', M', L', N', kp', c', l', g'⟩ := S'
  simp only at ha hn hL hN hk hc hl
  subst ha; subst hn; subst hL; subst hN; subst hk; subst hc; subst hl
  exact ⟨⟨h.ti.obj, h.ti.lrow, h.ti.nrow, h.ti.ne, h.ti.odd, h.ti.bl, h.ti.at', h.ti.keep⟩, h.bk, h.nd, h.lo, h.no⟩
def LieTB (y : Ly) (dn : Bool) (p : Par) (S : St) (w : World) (e : Ending) (w' : World) : Prop := e = .returned (.bool (lieB p S)) ∧ TB w' y dn p (lieS p S) ∧ Chg w w' [y.t]
theorem liesTB_any (h : TB w y dn p S) (hc : S.calls ≤ 1000000) : Calls Try.prog 120 #[pv y.t] w (LieTB y dn p S w) :=
  (lies_any h.ti hc).mono fun e w' he => ⟨he.1, h.lies he.2.2 he.2.1, he.2.2⟩
def TAddPost (y : Ly) (dn : Bool) (p : Par) (S : St) (w : World) (e : Ending) (w' : World) : Prop := (∃ v : Int, e = .returned (.int .i64 v) ∧ (lieB p S = true → v = 3) ∧ (lieB p S = false → v = 0 ∨ v = 1)) ∧ TB w' y dn p (lieS p S) ∧ Chg w w' [y.t]
set_option maxHeartbeats 1000000 in
theorem tadd_any (h : TB w y dn p S) (hc : S.calls ≤ 1000000) (d : Nat) : Calls Try.prog 112 #[pv y.t, .int .i64 d] w (TAddPost y dn p S w) := by
  have HL := liesTB_any h hc
  unfold LieTB at HL
  unfold TAddPost
  obtain ⟨q, hq⟩ : ∃ q, lieB p S = q := ⟨_, rfl⟩
  rw [hq] at HL ⊢
  obtain ⟨x, hx⟩ : ∃ x, (bits BinOp.and IntKind.i64 (d : Int) 1 == 1) = x := ⟨_, rfl⟩
  unfold pv at HL ⊢
  have HL' := Lib.hid HL
  clear h HL hq
  rcases q with _ | _
  · rcases x with _ | _
    · go_enter Try.func112, Try.ntmps112
      go_wp2_with ((with_reducible refine HL'.out.mono ?_); rintro e w2 ⟨rfl, h2, k2⟩)
      go_ret
      exact ⟨⟨_, rfl, (fun e => by cases e), fun _ => .inl rfl⟩, h2, k2⟩
    · go_enter Try.func112, Try.ntmps112
      go_wp2_with ((with_reducible refine HL'.out.mono ?_); rintro e w2 ⟨rfl, h2, k2⟩)
      go_ret
      exact ⟨⟨_, rfl, (fun e => by cases e), fun _ => .inr rfl⟩, h2, k2⟩
  · clear hx
    go_enter Try.func112, Try.ntmps112
    go_wp2_with ((with_reducible refine HL'.out.mono ?_); rintro e w2 ⟨rfl, h2, k2⟩)
    go_ret
    exact ⟨⟨_, rfl, (fun _ => rfl), (fun e => by cases e)⟩, h2, k2⟩
def StepV (p : Par) (S : St) (n : Int) : Bool × Int := if 7 < n then (false, if lieB p S then 0 else 1) else if lieB p S then (false, 1) else if powD S then (false, 6) else (true, 0)
def TStepPost (y : Ly) (p : Par) (S : St) (n : Int) (w : World) (e : Ending) (w' : World) : Prop :=
  e = .returned (.tuple #[.bool (StepV p S n).1, .int .i64 (StepV p S n).2]) ∧ TB w' y (stepP p S n).2.1 p (stepP p S n).2.2 ∧ Chg w w' (fpT y)
theorem fpT_t (y : Ly) : ∀ x ∈ [y.t], x ∈ fpT y := by intro x hx; rw [List.mem_singleton] at hx; subst hx; exact List.mem_cons_self ..
theorem fpT_b (y : Ly) : ∀ x ∈ fpB y.b y.ms, x ∈ fpT y := fun x hx => List.mem_cons_of_mem _ (List.mem_cons_of_mem _ (List.mem_cons_of_mem _ hx))
set_option maxHeartbeats 1000000 in
theorem tstep_any (h : TB w y false p S) (hc : S.calls ≤ 1000000) (hn : 1 ≤ S.nd ∧ S.nd ≤ 30) (ha : S.ar ≤ 1000) (n : Int) (h0 : 0 ≤ n) : Calls Try.prog 118 #[pv y.t, .int .i64 n] w (TStepPost y p S n w) := by
  have HL := liesTB_any h hc
  have HP := Lib.hid (show ∀ w2, TB w2 y false p (lieS p S) → Calls Try.prog 121 #[pv y.t] w2 (PowPost y p (lieS p S) w2) from fun w2 h2 => power_any h2 hn ha)
  unfold LieTB at HL
  unfold PowPost at HP
  rw [show powD (lieS p S) = powD S from rfl] at HP
  obtain ⟨q, hq⟩ : ∃ q, lieB p S = q := ⟨_, rfl⟩
  obtain ⟨d, hd⟩ : ∃ d, powD S = d := ⟨_, rfl⟩
  have HQ := Lib.hid hq; have HD := Lib.hid hd
  rw [hq] at HL
  rw [hd] at HP
  unfold pv at HL HP ⊢
  have HL' := Lib.hid HL
  have dn0 : decide (n < 0) = false := decide_eq_false (by omega)
  clear h HL hq hd
  rcases (show 7 < n ∨ ¬ 7 < n by omega) with h7 | h7
  · have d7 : decide (7 < n) = true := decide_eq_true h7
    have H7 := Lib.hid h7
    rcases q with _ | _
    · go_enter Try.func118, Try.ntmps118
      go_wp2_with ((with_reducible refine HL'.out.mono ?_); rintro e w2 ⟨rfl, h2, k2⟩)
      go_ret2
      refine ⟨by unfold StepV; rw [if_pos H7.out, HQ.out]; rfl, ?_, k2.wide (fpT_t y)⟩
      unfold stepP; rw [if_pos H7.out]; exact h2
    · go_enter Try.func118, Try.ntmps118
      go_wp2_with ((with_reducible refine HL'.out.mono ?_); rintro e w2 ⟨rfl, h2, k2⟩)
      go_ret2
      refine ⟨by unfold StepV; rw [if_pos H7.out, HQ.out]; rfl, ?_, k2.wide (fpT_t y)⟩
      unfold stepP; rw [if_pos H7.out]; exact h2
  · have d7 : decide (7 < n) = false := decide_eq_false h7
    have H7 := Lib.hid (show n ≤ 7 by omega)
    rcases q with _ | _
    · rcases d with _ | _
      · go_enter Try.func118, Try.ntmps118
        go_wp2_with (first | (go_at_call 121; refine (HP.out _ h2).mono ?_; rintro e w3 ⟨rfl, h3, k3⟩) | (go_at_call 120; (with_reducible refine HL'.out.mono ?_); rintro e w2 ⟨rfl, h2, k2⟩))
        go_ret2
        refine ⟨by unfold StepV; rw [if_neg (Int.not_lt.2 H7.out), HQ.out, HD.out]; rfl, ?_, (k2.wide (fpT_t y)).trans (k3.wide (fpT_b y)) (fun x hx => .inl hx)⟩
        unfold stepP; rw [if_neg (Int.not_lt.2 H7.out), HQ.out, HD.out]; exact h3
      · go_enter Try.func118, Try.ntmps118
        go_wp2_with (first | (go_at_call 121; refine (HP.out _ h2).mono ?_; rintro e w3 ⟨rfl, h3, k3⟩) | (go_at_call 120; (with_reducible refine HL'.out.mono ?_); rintro e w2 ⟨rfl, h2, k2⟩))
        go_ret2
        refine ⟨by unfold StepV; rw [if_neg (Int.not_lt.2 H7.out), HQ.out, HD.out]; rfl, ?_, (k2.wide (fpT_t y)).trans (k3.wide (fpT_b y)) (fun x hx => .inl hx)⟩
        unfold stepP; rw [if_neg (Int.not_lt.2 H7.out), HQ.out, HD.out]; exact h3
    · go_enter Try.func118, Try.ntmps118
      go_wp2_with ((with_reducible refine HL'.out.mono ?_); rintro e w2 ⟨rfl, h2, k2⟩)
      go_ret2
      refine ⟨by unfold StepV; rw [if_neg (Int.not_lt.2 H7.out), HQ.out]; rfl, ?_, k2.wide (fpT_t y)⟩
      unfold stepP; rw [if_neg (Int.not_lt.2 H7.out), HQ.out]; exact h2
end
end Go.Proofs.Ytmcgfnfhpcddlaa


/- The toy's Status. -/
namespace Go.Proofs.Ytmcgfnfhpcddlaa
open Go.RowKit Go.BW
def stat (n : Int) : Array Value := #[.int .i64 n, .slice none 0 0, .int .i64 0, .int .i64 0, .int .i64 0, .int .i64 0, .int .i64 0]
section
variable {w w' : World} {y : Ly} {dn dn' : Bool} {p : Par} {S S' : St}
theorem status_any (h : TB w y dn p S) : Calls Try.prog 117 #[pv y.t] w (Ret (.agg (stat p.bl)) w) := by
  obtain ⟨N, hN⟩ : ∃ N, p.bl = N := ⟨_, rfl⟩
  have n1 : Nw w (w.alloc (.cells (stat 0) 73)) := World.grownBy_alloc w _ none
  have c2 : (w.alloc (.cells (stat 0) 73)).cell? ⟨y.t, 2, none⟩ = some (.slice (some ⟨y.nr, 0, none⟩) N y.nc) := by rw [← hN]; exact (h.ti.obj.nw n1).cell 2
  rw [hN]
  unfold stat at c2 n1
  have N1 := Lib.hid n1
  have O1 := Lib.hid (Obj1.new w 73 (stat 0))
  unfold pv
  clear h hN n1
  go_enter Try.func117, Try.ntmps117
  go_wp2_with (refine wpList_store_obj 73 _ _ rfl rfl (stat N).toList rfl rfl rfl (by kernel_rfl) (by intro u hu; simp [stat] at hu; rcases hu with rfl | rfl | rfl <;> rfl) O1.out rfl ?_; intro w9 s9 g9)
  refine bodyPost_ret (res_cell rfl _ _ _ 73 _ _ rfl s9 Try.underlying73 rfl (by kernel_rfl)) rfl ?_
  exact ⟨rfl, nw_of_gb N1.out g9 (fun q hq => by injection hq with hq; omega)⟩
end
end Go.Proofs.Ytmcgfnfhpcddlaa

