/- The toy's Write. -/
import Derived.Test.YtmcgfnfhpcddlaaJQ
import Derived.Laws.Bits64b
import Derived.WalkSmall
set_option linter.unusedVariables false
set_option linter.unusedSimpArgs false
/- The toy's Write. -/
namespace Go.Proofs.Ytmcgfnfhpcddlaa
open Go.RowKit Go.BW
open Md (secAt)

theorem kbit0 {k : Nat} (h : k < 18446744073709551616) : (bits BinOp.and IntKind.u64 (k : Int) 1 == 1) = decide (k % 2 = 1) := by
  rw [and_one_u64 _ (by omega) (by omega), Bool.eq_iff_iff]
  simp
  omega
theorem kbit1 {k : Nat} (h : k < 18446744073709551616) : (bits BinOp.and IntKind.u64 (k : Int) 2 == 2) = decide (k / 2 % 2 = 1) := by
  have := bits_and_u64_nat k 2 h (by decide)
  rw [show ((2 : Nat) : Int) = 2 from rfl] at this
  rw [this, Bool.eq_iff_iff, decide_eq_true_iff]
  have h3 : (k &&& 2) / 2 = k / 2 &&& 1 := Nat.and_div_two
  have h4 : (k &&& 2) % 2 ^ 1 = k % 2 ^ 1 &&& 2 % 2 ^ 1 := Nat.and_mod_two_pow
  rw [Nat.and_one_is_mod] at h3
  have h5 : (k &&& 2) % 2 = 0 := by have : 2 % 2 ^ 1 = 0 := rfl
                                    rw [this, Nat.and_zero] at h4; exact h4
  simp
  omega
/-- 'T{x, y}' of bytes -/
theorem wpList_build2 {ops : Array Oper} {rest : List Oper} {o : Oper} {a : Go.Act} {Q : Exit → Go.Act → World → Prop} {w : World} (x y : UInt8) (v u : Operand) (hop : o.op = .build 33 #[(0, v), (1, u)]) (hw : Region.wanted o (yielded ops a.tmps) = true) (hv : a.eval v = bv x) (hu : a.eval u = bv y)
    (hK : wpList Try.prog ops Q rest (a.put o.dst (.agg ((x :: y :: List.replicate 62 0).map bv).toArray)) w) : wpList Try.prog ops Q (o :: rest) a w := by
  refine wpList_ran hw (w' := w) (v := .agg ((x :: y :: List.replicate 62 0).map bv).toArray) ?_ hK
  obtain ⟨i0, hi0, hz0⟩ := info33
  have hzv : (zeroValue 33).run Try.prog w = .ok (.agg (z64.map bv).toArray) w := by simp [zeroValue, typeInfo, hi0, hz0]
  obtain ⟨i5, hi5, hs5⟩ : ∃ i, Try.prog.info? 5 = some i ∧ i.size = 1 := Option.map_eq_some_iff.1 (by kernel_rfl : (Try.prog.info? 5).map (·.size) = some 1)
  have hf : Instr.fill (fun i => some (i, 1)) (Value.agg (z64.map bv).toArray).cells [(0, bv x), (1, bv y)] = some ((x :: y :: List.replicate 62 0).map bv).toArray := by rfl
  unfold execOp
  simp [hop, hv, hu, Instr.build, Sem.run_bind, hzv, run_underlying Try.underlying33, sizeOf, typeInfo, hi5, hs5]
  simp at hf
  rw [hf]
  simp
end Go.Proofs.Ytmcgfnfhpcddlaa


/- The toy's Write. -/
namespace Go.Proofs.Ytmcgfnfhpcddlaa
open Go.RowKit Go.BW
open Md (secAt)

theorem wpList_buildNo {ops : Array Oper} {rest : List Oper} {o : Oper} {a : Go.Act} {Q : Exit → Go.Act → World → Prop} {w : World} (v u : Operand) (hop : o.op = .build 33 #[(0, v), (1, u)]) (hw : Region.wanted o (yielded ops a.tmps) = true) (hv : a.eval v = bv 110) (hu : a.eval u = bv 111)
    (hK : wpList Try.prog ops Q rest (a.put o.dst (.agg (noS.map bv).toArray)) w) : wpList Try.prog ops Q (o :: rest) a w := wpList_build2 110 111 v u hop hw hv hu hK
section
variable {w w' : World} {y : Ly} {dn dn' : Bool} {p : Par} {S S' : St}
def WV (p : Par) (S : St) (k : Nat) (s : List UInt8) : Int := if p.bl ≤ k then (if lieB p S then 0 else 3) else if lieB p S then 5 else if s = noS then 4 else if powD S then 6 else 0
def TWritePost (y : Ly) (p : Par) (S : St) (k : Nat) (s : List UInt8) (w : World) (e : Ending) (w' : World) : Prop :=
  e = .returned (.int .i64 (WV p S k s)) ∧ TB w' y (writeP p S k s).2.1 p (writeP p S k s).2.2 ∧ Chg w w' (fpT y)
/-- a lie behind the sector's variable x, and the power -/
def LieX (y : Ly) (p : Par) (S : St) (x : Nat) (s : List UInt8) (N : Nat) (q : Bool) (w : World) (e : Ending) (w' : World) : Prop :=
  e = .returned (.bool q) ∧ TB w' y false p (lieS p S) ∧ Chg w w' [y.t] ∧ Obj1 w' x 33 (s.map bv).toArray ∧ w'.cell? ⟨y.t, 2, none⟩ = some (.slice (some ⟨y.nr, 0, none⟩) N y.nc)
def PowX (y : Ly) (p : Par) (S : St) (x : Nat) (s : List UInt8) (kp : Nat) (d : Bool) (w : World) (e : Ending) (w' : World) : Prop :=
  e = .returned (.bool d) ∧ TB w' y d p (powS (lieS p S)) ∧ Chg w w' (fpB y.b y.ms) ∧ Obj1 w' x 33 (s.map bv).toArray ∧ w'.cell? ⟨y.t, 3, none⟩ = some (.int .u64 (kp : Int))
theorem w_end {w w1 w2 w3 w4 w5 : World} {x k : Nat} {s : List UInt8} (h : TB w y false p S) (hs : s.length = 64) (hx : w.heap.size ≤ x) (n1 : Nw w w1) (k2 : Chg w1 w2 [y.t]) (k3 : Chg w2 w3 (fpB y.b y.ms)) (t3 : TB w3 y (powD S) p (powS (lieS p S)))
    (hk : ¬ p.bl ≤ k) (hq : lieB p S = false) (hn : s ≠ noS) (hkeep : (!powD S || decide (S.keep % 2 = 1)) = true)
    (e4 : w4 = w3.drew) (s5 : Own w5 0 33 64 (some ⟨y.nr, 0, none⟩) p.bl y.nc (splice (S.N.map bv) (k * 64) (s.map bv))) (g5 : w4.grownBy w5 (some y.nr)) :
    TB w5 y (writeP p S k s).2.1 p (writeP p S k s).2.2 ∧ Chg w w5 (fpT y) := by
  subst e4
  have hsp : splice (S.N.map bv) (k * 64) (s.map bv) = (setAt S.N k s).map bv := by unfold setAt splice; simp
  rw [hsp] at s5
  have t4 : TB w3.drew y (powD S) p (powS (lieS p S)) := ⟨t3.ti.drew, t3.bk.drewB, t3.nd, t3.lo, t3.no⟩
  obtain ⟨_, o1⟩ := t4.ti.lobj; obtain ⟨_, o2⟩ := t4.ti.nobj
  have t5 := t4.tstep (S' := { powS (lieS p S) with N := setAt S.N k s }) (F := [y.nr]) (Chg.of_gb g5 (by intro q e; injection e with e; simp [e])) (fun x hx => .inr (.inr (by simpa using hx)))
    ⟨t4.ti.obj.eq (g5.block _ t4.ti.obj.lt (fun e => by injection e with e; exact (t4.ti.obj.ne o2 (by decide)) e)), t4.ti.lrow.eqb (g5.block _ o1.lt (fun e => by injection e with e; exact t4.ti.ne e)), s5, t4.ti.ne, t4.ti.odd, t4.ti.bl, t4.ti.at', t4.ti.keep⟩ rfl rfl (.inl rfl) (.inr (.inl rfl))
  have hw : writeP p S k s = (true, powD S, { powS (lieS p S) with N := setAt S.N k s, M := S.M.set k ((S.M.getD k ([], false)).1 ++ s, false) }) := by
    unfold writeP; rw [if_neg hk, hq, if_neg Bool.false_ne_true, if_neg hn, hkeep, if_pos rfl]
  rw [hw]
  refine ⟨t5.same rfl rfl rfl rfl rfl rfl rfl, ?_⟩
  have c : Chg w w3 (fpT y) := ((Chg.of_nw n1).trans (k2.wide (fpT_t y)) (fun _ h => .inl h)).trans (k3.wide (fpT_b y)) (fun _ h => .inl h)
  exact c.drew.trans (Chg.of_gb (F := fpT y) g5 (by intro q e; injection e with e; subst e; simp [fpT])) (fun _ h => .inl h)
theorem w_keep {w w1 w2 w3 : World} {k : Nat} {s : List UInt8} (n1 : Nw w w1) (k2 : Chg w1 w2 [y.t]) (k3 : Chg w2 w3 (fpB y.b y.ms)) (t3 : TB w3 y (powD S) p (powS (lieS p S)))
    (hk : ¬ p.bl ≤ k) (hq : lieB p S = false) (hn : s ≠ noS) (hkeep : (!powD S || decide (S.keep % 2 = 1)) = false) : TB w3 y (writeP p S k s).2.1 p (writeP p S k s).2.2 ∧ Chg w w3 (fpT y) := by
  have hw : writeP p S k s = (true, powD S, { powS (lieS p S) with N := S.N, M := S.M.set k ((S.M.getD k ([], false)).1 ++ s, false) }) := by
    unfold writeP; rw [if_neg hk, hq, if_neg Bool.false_ne_true, if_neg hn, hkeep, if_neg Bool.false_ne_true]
  rw [hw]
  exact ⟨t3.same rfl rfl rfl rfl rfl rfl rfl, ((Chg.of_nw n1).trans (k2.wide (fpT_t y)) (fun _ h => .inl h)).trans (k3.wide (fpT_b y)) (fun _ h => .inl h)⟩
set_option maxHeartbeats 4000000 in
set_option maxRecDepth 100000 in
theorem twrite_any (h : TB w y false p S) (hc : S.calls ≤ 1000000) (hn : 1 ≤ S.nd ∧ S.nd ≤ 30) (ha : S.ar ≤ 1000) (k : Nat) (s : List UInt8) (hs : s.length = 64) : Calls Try.prog 119 #[pv y.t, .int .i64 k, .agg (s.map bv).toArray] w (TWritePost y p S k s w) := by
  have HT := Lib.hid h
  obtain ⟨w1, hw1⟩ : ∃ w1, w.alloc (.cells (s.map bv).toArray 33) = w1 := ⟨_, rfl⟩
  have n1 : Nw w w1 := by rw [← hw1]; exact World.grownBy_alloc w _ none
  have x1 : Obj1 w1 w.heap.size 33 (s.map bv).toArray := by rw [← hw1]; exact Obj1.new w _ _
  obtain ⟨x, hx⟩ : ∃ x, w.heap.size = x := ⟨_, rfl⟩
  rw [hx] at x1
  have hxl : w.heap.size ≤ x := by omega
  have t1 := h.nw n1
  obtain ⟨q, hq⟩ : ∃ q, lieB p S = q := ⟨_, rfl⟩
  obtain ⟨d, hd⟩ : ∃ d, powD S = d := ⟨_, rfl⟩
  obtain ⟨N, hN⟩ : ∃ N, p.bl = N := ⟨_, rfl⟩
  obtain ⟨kp, hkp⟩ : ∃ kp, S.keep = kp := ⟨_, rfl⟩
  obtain ⟨kb, hkb⟩ : ∃ kb, decide (S.keep % 2 = 1) = kb := ⟨_, rfl⟩
  have hkb' : (bits BinOp.and IntKind.u64 (kp : Int) 1 == 1) = kb := by rw [← hkb, ← hkp]; exact kbit0 h.ti.keep
  have HL : Calls Try.prog 120 #[pv y.t] w1 (LieX y p S x s N q w1) := (liesTB_any t1 hc).mono fun e w2 he => ⟨by rw [he.1, hq], he.2.1, he.2.2, x1.chg he.2.2 (fun hm => (x1.ne t1.ti.obj (by decide)) (by simpa using hm)), by rw [← hN]; exact he.2.1.ti.obj.cell 2⟩
  have HP : ∀ w2, TB w2 y false p (lieS p S) → Obj1 w2 x 33 (s.map bv).toArray → Calls Try.prog 121 #[pv y.t] w2 (PowX y p S x s kp d w2) := fun w2 t2 x2 => (power_any t2 hn ha).mono fun e w3 he => by
    have e1 : powD (lieS p S) = powD S := rfl
    rw [PowPost, e1, hd] at he
    exact ⟨he.1, he.2.1, he.2.2, x2.chg he.2.2 (fun hm => by have := h.bk.lt x hm; omega), by rw [← hkp]; exact he.2.1.ti.obj.cell 3⟩
  have HQ := Lib.hid hq; have HD := Lib.hid hd; have HN := Lib.hid hN; have HKB := Lib.hid hkb; have HS := Lib.hid hs; have HXL := Lib.hid hxl; have N1 := Lib.hid n1
  unfold LieX pv at HL
  unfold PowX pv at HP
  have HL' := Lib.hid HL; have HP' := Lib.hid HP
  have dk : decide ((k : Int) < 0) = false := decide_eq_false (by omega)
  unfold pv
  clear h HL HP hq hd hN hkp hkb t1 n1 x1 hn ha hc hs hxl
  rcases (show N ≤ k ∨ k < N by omega) with hk | hk
  · have dk2 : decide ((N : Int) ≤ (k : Int)) = true := decide_eq_true (by omega)
    have HK := Lib.hid hk
    rcases q with _ | _
    all_goals
      · go_enter Try.func119, Try.ntmps119
        go_wp2_with (go_at_call 120; (with_reducible refine HL'.out.mono ?_); rintro e w2 ⟨rfl, h2, k2, v2, c2⟩)
        go_ret
        have hle : p.bl ≤ k := by rw [HN.out]; exact HK.out
        refine ⟨by unfold WV; rw [if_pos hle, HQ.out]; rfl, ?_, (Chg.of_nw N1.out).trans (k2.wide (fpT_t y)) (fun _ h => .inl h)⟩
        unfold writeP; rw [if_pos hle]; exact h2
  · have dk2 : decide ((N : Int) ≤ (k : Int)) = false := decide_eq_false (by omega)
    have HK := Lib.hid (show k < N from hk)
    have dk3 : (k : Int) < (N : Int) := by omega
    rcases q with _ | _
    · have I33 := Lib.hid (show (Try.prog.info? 33).map (·.size) = some ((s.map bv).toArray).size from by rw [List.size_toArray]; exact i33' HS.out)
      have HLE := Lib.hid (show ¬ p.bl ≤ k by rw [HN.out]; exact Nat.not_le.2 HK.out)
      by_cases hne : s = noS
      · have HEQ := Lib.hid (show (false ^^ decide (s = noS)) = true by rw [decide_eq_true hne]; rfl)
        have HNE := Lib.hid hne
        clear hne
        go_enter Try.func119, Try.ntmps119
        go_wp2_with (first
          | (refine wpList_eq_arr false 33 33 5 64 _ _ rfl rfl s noS Try.underlying33 Try.underlying5 i5 (by kernel_rfl) rfl rfl HS.out rfl true HEQ.out ?_)
          | (refine wpList_buildNo _ _ rfl rfl rfl rfl ?_)
          | (refine wpList_load_obj 33 _ rfl rfl rfl v2 _ Try.underlying33 rfl I33.out ?_)
          | (go_at_call 120; (with_reducible refine HL'.out.mono ?_); rintro e w2 ⟨rfl, h2, k2, v2, c2⟩))
        go_ret
        refine ⟨by unfold WV; rw [if_neg HLE.out, HQ.out, if_neg Bool.false_ne_true, if_pos HNE.out]; rfl, ?_, (Chg.of_nw N1.out).trans (k2.wide (fpT_t y)) (fun _ h => .inl h)⟩
        unfold writeP; rw [if_neg HLE.out, HQ.out, if_neg Bool.false_ne_true, if_pos HNE.out]; exact h2
      · have HEQ := Lib.hid (show (false ^^ decide (s = noS)) = false by rw [decide_eq_false hne]; rfl)
        have HNE := Lib.hid (show s ≠ noS from hne)
        clear hne
        go_enter Try.func119, Try.ntmps119
        go_upto_region 11 with (first
          | (go_at_call 121; refine (HP'.out _ h2 v2).mono ?_; rintro e w3 ⟨rfl, h3, k3, v3, c3⟩)
          | (refine wpList_eq_arr false 33 33 5 64 _ _ rfl rfl s noS Try.underlying33 Try.underlying5 i5 (by kernel_rfl) rfl rfl HS.out rfl false HEQ.out ?_)
          | (refine wpList_buildNo _ _ rfl rfl rfl rfl ?_)
          | (refine wpList_load_obj 33 _ rfl rfl rfl v2 _ Try.underlying33 rfl I33.out ?_)
          | (go_at_call 120; (with_reducible refine HL'.out.mono ?_); rintro e w2 ⟨rfl, h2, k2, v2, c2⟩))
        have H3 := Lib.hid h3; have K2 := Lib.hid k2; have K3 := Lib.hid k3
        clear h2 k2 v2 c2 h3 k3
        have c4 : ∀ w', Nw w3 w' → w'.cell? ⟨y.t, 2, none⟩ = some (.slice (some ⟨y.nr, 0, none⟩) N y.nc) := fun w' k => by rw [← HN.out]; exact (H3.out.ti.obj.nw k).cell 2
        rcases d with _ | _
        · go_upto_region 12 with fail
          refine wp_region_U [7] (fun w' => Nw w3 w') (by kernel_rfl) ?_
          change wpU _ _ _ _ _ _ _ _ _ (World.drew w3)
          refine U_segL (r := [0, 1, 2, 3, 4, 5, 6]) (fuel := 1) rfl (by kernel_rfl) (by kernel_rfl) (by simp only [List.filterMap_cons, List.filterMap_nil, List.getElem?_toArray, List.getElem?_cons_succ, List.getElem?_cons_zero]; rfl) (fun _ _ d _ _ h => by cases d <;> exact h) (gb_drew (Nw.refl w3)) ?_
          iterate 5 (refine wpYield_step rfl (fun K hK => ?_)
                     apply Exists.intro
                     refine ⟨fun w' hw' => ?_, ?_⟩
                     · (go_simp; try with_reducible rfl)
                     go_simp
                     refine hK _ ?_
                     clear hK K)
          refine wpYield_load_agg 33 _ rfl rfl rfl (s.map bv) (fun w' hw' j u hu => by rw [Nat.zero_add, (v3.nw hw').cell j]; simpa using hu) _ Try.underlying33 rfl (i33' HS.out) ?_
          (refine wpYield_step rfl (fun K hK => ?_)
           apply Exists.intro
           refine ⟨fun w' hw' => ?_, ?_⟩
           · (go_simp; try with_reducible rfl)
           go_simp
           refine hK _ ?_
           clear hK K)
          refine wpYield_nil ?_
          refine U_eff 7 rfl (by kernel_rfl) rfl (fun K hK => ?_)
          refine wp_store_own (size := 64) (cs := s.map bv) (off := k * 64) 33 _ _ rfl rfl (v := .agg (s.map bv).toArray) rfl rfl (i33' HS.out) (sec_one _) (H3.out.ti.nrow.drew) (by rw [List.length_map, HS.out, HN.out]; have := HK.out; omega) (fun w5 s5 g5 => ?_)
          refine hK _ _ ⟨until_past (by kernel_rfl), ?_⟩
          clear hK K c4
          refine U_done (by kernel_rfl) ?_ _
          have FIN := Lib.hid (w_end HT.out HS.out HXL.out N1.out K2.out K3.out (by rw [HD.out]; exact H3.out) HLE.out HQ.out HNE.out (by rw [HD.out, HKB.out]; rfl) rfl s5 g5)
          clear s5 g5
          go_wp2
          go_ret
          exact ⟨by unfold WV; rw [if_neg HLE.out, HQ.out, if_neg Bool.false_ne_true, if_neg HNE.out, HD.out]; rfl, FIN.out⟩
        · rcases kb with _ | _
          · clear c4
            go_wp2
            go_ret
            exact ⟨by unfold WV; rw [if_neg HLE.out, HQ.out, if_neg Bool.false_ne_true, if_neg HNE.out, HD.out]; rfl, w_keep N1.out K2.out K3.out (by rw [HD.out]; exact H3.out) HLE.out HQ.out HNE.out (by rw [HD.out, HKB.out]; rfl)⟩
          · go_upto_region 12 with fail
            refine wp_region_U [7] (fun w' => Nw w3 w') (by kernel_rfl) ?_
            change wpU _ _ _ _ _ _ _ _ _ (World.drew w3)
            refine U_segL (r := [0, 1, 2, 3, 4, 5, 6]) (fuel := 1) rfl (by kernel_rfl) (by kernel_rfl) (by simp only [List.filterMap_cons, List.filterMap_nil, List.getElem?_toArray, List.getElem?_cons_succ, List.getElem?_cons_zero]; rfl) (fun _ _ d _ _ h => by cases d <;> exact h) (gb_drew (Nw.refl w3)) ?_
            iterate 5 (refine wpYield_step rfl (fun K hK => ?_)
                       apply Exists.intro
                       refine ⟨fun w' hw' => ?_, ?_⟩
                       · (go_simp; try with_reducible rfl)
                       go_simp
                       refine hK _ ?_
                       clear hK K)
            refine wpYield_load_agg 33 _ rfl rfl rfl (s.map bv) (fun w' hw' j u hu => by rw [Nat.zero_add, (v3.nw hw').cell j]; simpa using hu) _ Try.underlying33 rfl (i33' HS.out) ?_
            (refine wpYield_step rfl (fun K hK => ?_)
             apply Exists.intro
             refine ⟨fun w' hw' => ?_, ?_⟩
             · (go_simp; try with_reducible rfl)
             go_simp
             refine hK _ ?_
             clear hK K)
            refine wpYield_nil ?_
            refine U_eff 7 rfl (by kernel_rfl) rfl (fun K hK => ?_)
            refine wp_store_own (size := 64) (cs := s.map bv) (off := k * 64) 33 _ _ rfl rfl (v := .agg (s.map bv).toArray) rfl rfl (i33' HS.out) (sec_one _) (H3.out.ti.nrow.drew) (by rw [List.length_map, HS.out, HN.out]; have := HK.out; omega) (fun w5 s5 g5 => ?_)
            refine hK _ _ ⟨until_past (by kernel_rfl), ?_⟩
            clear hK K c4
            refine U_done (by kernel_rfl) ?_ _
            have FIN := Lib.hid (w_end HT.out HS.out HXL.out N1.out K2.out K3.out (by rw [HD.out]; exact H3.out) HLE.out HQ.out HNE.out (by rw [HD.out, HKB.out]; rfl) rfl s5 g5)
            clear s5 g5
            go_wp2
            go_ret
            exact ⟨by unfold WV; rw [if_neg HLE.out, HQ.out, if_neg Bool.false_ne_true, if_neg HNE.out, HD.out]; rfl, FIN.out⟩
    · go_enter Try.func119, Try.ntmps119
      go_wp2_with (go_at_call 120; (with_reducible refine HL'.out.mono ?_); rintro e w2 ⟨rfl, h2, k2, v2, c2⟩)
      go_ret
      have hle : ¬ p.bl ≤ k := by rw [HN.out]; exact Nat.not_le.2 HK.out
      refine ⟨by unfold WV; rw [if_neg hle, HQ.out]; rfl, ?_, (Chg.of_nw N1.out).trans (k2.wide (fpT_t y)) (fun _ h => .inl h)⟩
      unfold writeP; rw [if_neg hle, HQ.out, if_pos rfl]; exact h2
end
end Go.Proofs.Ytmcgfnfhpcddlaa


/- The toy's Flush. -/
namespace Go.Proofs.Ytmcgfnfhpcddlaa
open Go.RowKit Go.BW
open Md (secAt)

section
variable {w w' : World} {y : Ly} {dn dn' : Bool} {p : Par} {S S' : St}
theorem TB.tstep' {lr lc nr nc : Nat} {F : List Nat} (h : TB w y dn p S) (k : Chg w w' F) (hF : ∀ x ∈ F, x = y.t ∨ x = y.lr ∨ x = y.nr) (t1 : TI w' y.t y.b lr lc nr nc p S') (ha : S'.ar = S.ar) (hn : S'.nd = S.nd) (hl : lr ∉ fpB y.b y.ms) (hr : nr ∉ fpB y.b y.ms) :
    TB w' ⟨y.t, y.b, lr, lc, nr, nc, y.A, y.c, y.ms⟩ dn p S' := by
  refine ⟨t1, ?_, h.nd.trans hn.symm, hl, hr⟩
  rw [ha]
  refine h.bk.far k (fun x hx hm => ?_) (fun r hr hm => ?_)
  · rcases hF x hm with e | e | e
    · exact h.to (e ▸ hx)
    · exact h.lo (e ▸ hx)
    · exact h.no (e ▸ hx)
  · obtain ⟨cur, hc⟩ := h.bk.row.rowObj r hr
    obtain ⟨_, o1⟩ := h.ti.lobj; obtain ⟨_, o2⟩ := h.ti.nobj
    rcases hF r hm with e | e | e
    · exact (hc.ne h.ti.obj (by decide)) e
    · exact (hc.ne o1 (by decide)) e
    · exact (hc.ne o2 (by decide)) e
def Ly.l (y : Ly) (lr lc : Nat) : Ly := ⟨y.t, y.b, lr, lc, y.nr, y.nc, y.A, y.c, y.ms⟩
def TFlushPost (y : Ly) (p : Par) (S : St) (w : World) (e : Ending) (w' : World) : Prop :=
  e = .returned (.int .i64 (if powD S then 6 else 0)) ∧ ∃ lr lc, TB w' (y.l lr lc) (powD S) p (flushT S) ∧ Chg w w' (fpT y) ∧ (lr = y.lr ∨ w.heap.size ≤ lr)
def PowF (y : Ly) (p : Par) (S : St) (kp : Nat) (d : Bool) (w : World) (e : Ending) (w' : World) : Prop :=
  e = .returned (.bool d) ∧ TB w' y d p (powS S) ∧ Chg w w' (fpB y.b y.ms) ∧ w'.cell? ⟨y.t, 3, none⟩ = some (.int .u64 (kp : Int))
theorem f_end {w w3 w4 w5 : World} {r c' : Nat} (h : TB w y false p S) (k3 : Chg w w3 (fpB y.b y.ms)) (t3 : TB w3 y (powD S) p (powS S)) (n4 : Nw w3 w4) (o4 : Own w4 w3.heap.size 33 64 (some ⟨r, 0, none⟩) p.bl c' (S.N.map bv)) (hr : w3.heap.size ≤ r)
    (hk : (!powD S || decide (S.keep / 2 % 2 = 1)) = true) (e5 : w5 = w4.setCell ⟨y.t, 1, none⟩ (.slice (some ⟨r, 0, none⟩) p.bl c')) : ∃ lr lc, TB w5 (y.l lr lc) (powD S) p (flushT S) ∧ Chg w w5 (fpT y) ∧ (lr = y.lr ∨ w.heap.size ≤ lr) := by
  have t4 := t3.nw n4
  have g5 : w4.grownBy w5 (some y.t) := by rw [e5]; exact gb_set _ _ _ _
  have o5 : Obj1 w5 y.t 35 (toyC (pv y.b) (.slice (some ⟨r, 0, none⟩) p.bl c') (.slice (some ⟨y.nr, 0, none⟩) p.bl y.nc) S.keep p.at' S.calls S.lied p.odd) := by rw [e5]; exact t4.ti.obj.set 1 (.slice (some ⟨r, 0, none⟩) p.bl c')
  obtain ⟨_, q⟩ := o4.obj
  obtain ⟨_, o2⟩ := t4.ti.nobj
  have hf : flushT S = { powS S with L := S.N } := by unfold flushT; rw [hk, if_pos rfl]
  have z3 := k3.size; have z4 := n4.size
  have t5 := t4.tstep' (lr := r) (lc := c') (nr := y.nr) (nc := y.nc) (S' := { powS S with L := S.N }) (F := [y.t]) (Chg.of_gb g5 (by intro q e; injection e with e; simp [e])) (fun x hx => .inl (by simpa using hx))
    ⟨o5, (o4.more (Nat.zero_le _)).eqb (g5.block _ q.lt (fun e => by injection e with e; exact (q.ne t4.ti.obj (by decide)) e)), t4.ti.nrow.eqb (g5.block _ o2.lt (fun e => by injection e with e; exact (o2.ne t4.ti.obj (by decide)) e)),
      (fun e => by have := t3.ti.lt.2.2; omega), t4.ti.odd, t4.ti.bl, t4.ti.at', t4.ti.keep⟩ rfl rfl (fun hm => by have := t3.bk.lt r hm; omega) t3.no
  rw [hf]
  refine ⟨r, c', t5, ?_, .inr (by omega)⟩
  exact ((k3.wide (fpT_b y)).trans (Chg.of_nw n4) (fun _ h => .inl h)).trans (Chg.of_gb (F := fpT y) g5 (by intro q e; injection e with e; subst e; simp [fpT])) (fun _ h => .inl h)
set_option maxHeartbeats 2000000 in
set_option maxRecDepth 100000 in
theorem tflush_any (h : TB w y false p S) (hn : 1 ≤ S.nd ∧ S.nd ≤ 30) (ha : S.ar ≤ 1000) : Calls Try.prog 113 #[pv y.t] w (TFlushPost y p S w) := by
  have HT := Lib.hid h
  obtain ⟨d, hd⟩ : ∃ d, powD S = d := ⟨_, rfl⟩
  obtain ⟨N, hN⟩ : ∃ N, p.bl = N := ⟨_, rfl⟩
  obtain ⟨kp, hkp⟩ : ∃ kp, S.keep = kp := ⟨_, rfl⟩
  obtain ⟨kb, hkb⟩ : ∃ kb, decide (S.keep / 2 % 2 = 1) = kb := ⟨_, rfl⟩
  have hkb' : (bits BinOp.and IntKind.u64 (kp : Int) 2 == 2) = kb := by rw [← hkb, ← hkp]; exact kbit1 h.ti.keep
  have HP : Calls Try.prog 121 #[pv y.t] w (PowF y p S kp d w) := (power_any h hn ha).mono fun e w3 he => ⟨by rw [he.1, hd], by rw [← hd]; exact he.2.1, he.2.2, by rw [← hkp]; exact he.2.1.ti.obj.cell 3⟩
  have HD := Lib.hid hd; have HN := Lib.hid hN; have HKB := Lib.hid hkb
  have HNB := Lib.hid (show 1 ≤ N ∧ N ≤ 96 from by rw [← hN]; exact h.ti.bl)
  unfold PowF pv at HP
  have HP' := Lib.hid HP
  unfold pv
  clear h HP hd hN hkp hkb hn ha
  go_enter Try.func113, Try.ntmps113
  go_upto_region 2 with ((with_reducible refine HP'.out.mono ?_); rintro e w3 ⟨rfl, h3, k3, c3⟩)
  have H3 := Lib.hid h3; have K3 := Lib.hid k3
  have c2 : w3.cell? ⟨y.t, 2, none⟩ = some (.slice (some ⟨y.nr, 0, none⟩) N y.nc) := by rw [← HN.out]; exact h3.ti.obj.cell 2
  have c2' : (w3.alloc (.cells #[] 33)).cell? ⟨y.t, 2, none⟩ = some (.slice (some ⟨y.nr, 0, none⟩) N y.nc) := by rw [← HN.out]; exact (h3.ti.obj.nw (World.grownBy_alloc w3 _ none)).cell 2
  have RD := Lib.hid (show Rd w3 w3.heap.size 64 (some ⟨y.nr, 0, none⟩) N (S.N.map bv) from by rw [← HN.out]; exact h3.ti.nrow.rd)
  clear h3 k3
  have hcase : (d = true ∧ kb = false) ∨ (!d || kb) = true := by cases d <;> cases kb <;> simp
  rcases hcase with ⟨rfl, rfl⟩ | hck
  · go_wp2
    go_ret
    refine ⟨by rw [HD.out]; rfl, y.lr, y.lc, ?_, K3.out.wide (fpT_b y), .inl rfl⟩
    have hf : flushT S = { powS S with L := S.L } := by unfold flushT; rw [HD.out, HKB.out]; rfl
    rw [hf, HD.out]
    exact H3.out.same rfl rfl rfl rfl rfl rfl rfl
  · have HCK := Lib.hid (show (!powD S || decide (S.keep / 2 % 2 = 1)) = true by rw [HD.out, HKB.out]; exact hck)
    rcases d with _ | _
    · go_wp2_with (at_builtin; refine wpList_app_lit Md.T22 _ _ rfl rfl w3.heap.size rfl rfl RD.out (Nat.le_refl _) (sec_one _) (by have := HNB.out; unfold maxLen; omega) (Nat.le_refl _) ?_; intro A4 c4 w4 o4 n4; have O4 := Lib.hid o4; have N4 := Lib.hid n4; have d1 : w4.cell? ⟨y.t, 1, none⟩ = some (.slice (some ⟨y.lr, 0, none⟩) p.bl y.lc) := (H3.out.ti.obj.nw n4).cell 1; have f1 := (H3.out.ti.obj.nw n4).frozen 1; clear o4 n4)
      go_ret
      obtain ⟨r, rfl, hr⟩ := O4.out.some_ (by have := HNB.out; omega)
      have o4 := O4.out
      rw [← HN.out] at o4 ⊢
      exact ⟨by rw [HD.out]; rfl, f_end HT.out K3.out (by rw [HD.out]; exact H3.out) N4.out o4 hr HCK.out rfl⟩
    · cases kb with
      | false => cases hck
      | true =>
        skip
        go_wp2_with (at_builtin; refine wpList_app_lit Md.T22 _ _ rfl rfl w3.heap.size rfl rfl RD.out (Nat.le_refl _) (sec_one _) (by have := HNB.out; unfold maxLen; omega) (Nat.le_refl _) ?_; intro A4 c4 w4 o4 n4; have O4 := Lib.hid o4; have N4 := Lib.hid n4; have d1 : w4.cell? ⟨y.t, 1, none⟩ = some (.slice (some ⟨y.lr, 0, none⟩) p.bl y.lc) := (H3.out.ti.obj.nw n4).cell 1; have f1 := (H3.out.ti.obj.nw n4).frozen 1; clear o4 n4)
        go_ret
        obtain ⟨r, rfl, hr⟩ := O4.out.some_ (by have := HNB.out; omega)
        have o4 := O4.out
        rw [← HN.out] at o4 ⊢
        exact ⟨by rw [HD.out]; rfl, f_end HT.out K3.out (by rw [HD.out]; exact H3.out) N4.out o4 hr HCK.out rfl⟩
end
end Go.Proofs.Ytmcgfnfhpcddlaa

