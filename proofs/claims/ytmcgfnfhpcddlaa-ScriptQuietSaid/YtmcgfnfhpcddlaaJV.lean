/- The stage's does: an act done; for all acts that may be. -/
import Derived.Test.YtmcgfnfhpcddlaaJU
set_option linter.unusedVariables false
set_option linter.unusedSimpArgs false
/- The stage's does: an act done; for all acts that may be. -/
namespace Go.Proofs.Ytmcgfnfhpcddlaa
open Go.RowKit Go.BW

section
variable {w0 w w' : World} {q : Fx} {v : Vr} {K : Nat} {dn dn' : Bool} {p : Par} {S S' : St}
/-- behind the toy's Flush -/
def FlS (w0 : World) (q : Fx) (K : Nat) (p : Par) (S : St) (e1 : Int) (d : Bool) (e : Ending) (w' : World) : Prop := e = .returned (.int .i64 e1) ∧ ∃ v', SIv w0 q v' K d p (flushT S) w'
theorem flS_any (h : SIv w0 q v K false p S w) (hn : 1 ≤ S.nd ∧ S.nd ≤ 30) (ha : S.ar ≤ 1000) : Calls Try.prog 113 #[pv q.t] w (FlS w0 q K p S (if powD S then 6 else 0) (powD S)) :=
  (tflush_any h.tb hn ha).mono fun e w' he => by
    obtain ⟨h1, lr, lc, ht, hc, hl⟩ := he
    exact ⟨h1, _, h.toy hc ht hl rfl rfl⟩
theorem mdf_any (h : SIv w0 q v K dn p S w) (hK : K ≤ 1000) : Calls Try.prog 51 #[pv q.g] w (fun e w' => e = .returned (.tuple #[]) ∧ SI w0 q K dn p { S with M := S.M.map Md.flushB } w') := by
  refine (Md.flush_any h.md (by rw [h.ml]; exact h.tb.ti.bl.2) hK).mono ?_
  rintro e w' ⟨rfl, F', r5, k5, f5⟩
  exact ⟨rfl, _, h.mod k5 r5 f5 (by rw [List.length_map]; exact h.ml)⟩
def StS (w0 : World) (q : Fx) (v : Vr) (K : Nat) (p : Par) (S : St) (x : Nat) (n : Int) (b : Bool) (e1 : Int) (e : Ending) (w' : World) : Prop := e = .returned (.tuple #[.bool b, .int .i64 e1]) ∧ SIv w0 q v K (stepP p S n).2.1 p (stepP p S n).2.2 w' ∧ w'.cell? ⟨x, 66, none⟩ = some (.int .i64 n)
theorem SIv.not_fpT {g : Nat} {t : TypeId} {cs : Array Value} (h : SIv w0 q v K dn p S w) (ho : Obj1 w g t cs) (h1 : t ≠ 35) (h2 : t ≠ 33) (h3 : t ≠ 109) (h4 : t ≠ 114) (h5 : t ≠ 3) : g ∉ fpT (v.y q) := by
  intro hm
  obtain ⟨_, o1⟩ := h.tb.ti.lobj; obtain ⟨_, o2⟩ := h.tb.ti.nobj
  rcases List.mem_cons.1 hm with e | hm
  · exact (ho.ne h.tb.ti.obj h1) e
  rcases List.mem_cons.1 hm with e | hm
  · exact (ho.ne o1 h2) e
  rcases List.mem_cons.1 hm with e | hm
  · exact (ho.ne o2 h2) e
  · exact h.tb.bk.not ho h3 h4 h2 h5 hm
theorem stS_any {a : Act} {x : Nat} (ho : ActO w x a) (h : SIv w0 q v K false p S w) (hc : S.calls ≤ 1000000) (hn : 1 ≤ S.nd ∧ S.nd ≤ 30) (ha : S.ar ≤ 1000) (h0 : 0 ≤ a.n) : Calls Try.prog 118 #[pv q.t, .int .i64 a.n] w (StS w0 q v K p S x a.n (StepV p S a.n).1 (StepV p S a.n).2) :=
  (tstep_any h.tb hc hn ha a.n h0).mono fun e w' he => ⟨he.1, h.toy0 he.2.2 he.2.1 (by unfold stepP; split <;> (try split) <;> rfl) (by unfold stepP; split <;> (try split) <;> rfl), ActO.n (Obj1.chg ho he.2.2 (h.not_fpT ho (by decide) (by decide) (by decide) (by decide) (by decide)))⟩
def DoesPost (w0 : World) (q : Fx) (K : Nat) (p : Par) (S : St) (a : Act) (e : Ending) (w' : World) : Prop := e = .returned (.bool (doesP p S a).1) ∧ SI w0 q (K + 1) (doesP p S a).2.1 p (doesP p S a).2.2 w'
theorem SI.more {K' : Nat} (h : SI w0 q K dn p S w) (hK : K ≤ K') : SI w0 q K' dn p S w := by obtain ⟨v, h⟩ := h; exact ⟨v, h.more hK⟩
theorem SI.nw (h : SI w0 q K dn p S w) (k : Nw w w') : SI w0 q K dn p S w' := by obtain ⟨v, h⟩ := h; exact ⟨v, h.nw k⟩
theorem right_bounds {a : Act} (h : rightA a = true) : (1 ≤ a.k ∧ a.k ≤ 10) ∧ (0 ≤ a.b ∧ a.b ≤ 255) ∧ (0 ≤ a.n ∧ a.n ≤ 65535) ∧ (0 ≤ a.at' ∧ a.at' ≤ 255) ∧ (a.k ≠ 5 → a.n ≤ 255) := by
  obtain ⟨h1, _, h3, h4, h5⟩ := rightA_parts h
  unfold mostN at h4
  split at h4 <;> exact ⟨h1, h3, by omega, h5, by omega⟩
set_option maxHeartbeats 8000000 in
set_option maxRecDepth 100000 in
theorem does_any {a : Act} (h : SIv w0 q v K false p S w) (hc : S.calls ≤ 1000000) (hn : 1 ≤ S.nd ∧ S.nd ≤ 30) (ha : S.ar ≤ 1000) (hK : K ≤ 900) (hr : rightA a = true) (ho : ActOk a) :
    Calls Try.prog 27 #[pv q.st, .agg (actC a).toArray] w (DoesPost w0 q K p S a) := by
  obtain ⟨w1, hw1⟩ : ∃ w1, w.alloc (.cells (actC a).toArray 44) = w1 := ⟨_, rfl⟩
  obtain ⟨x, hx⟩ : ∃ x, w.heap.size = x := ⟨_, rfl⟩
  have n1 : Nw w w1 := by rw [← hw1]; exact World.grownBy_alloc w _ none
  have H1 := Lib.hid (h.nw n1)
  have O1 := Lib.hid (show ActO w1 x a from by rw [← hw1, ← hx]; exact Obj1.new w _ _)
  have CC := Lib.hid hc; have NN := Lib.hid hn; have AA := Lib.hid ha; have KK := Lib.hid hK; have OO := Lib.hid ho.s
  have RB := Lib.hid (right_bounds hr)
  have c1 : w1.cell? ⟨q.st, 1, none⟩ = some (.iface 28 (.pointer (some ⟨q.t, 0, none⟩))) := H1.out.so.cell 1
  have c2 : w1.cell? ⟨q.st, 2, none⟩ = some (.pointer (some ⟨q.g, 0, none⟩)) := H1.out.so.cell 2
  obtain ⟨ak, hak⟩ : ∃ ak, a.k = ak := ⟨_, rfl⟩
  have HAK := Lib.hid hak
  have k0 : w1.cell? ⟨x, 0, none⟩ = some (.int .i64 ak) := by rw [← hak]; exact O1.out.k
  obtain ⟨ab, hab⟩ : ∃ ab : Nat, a.b = (ab : Int) := ⟨a.b.toNat, by have := RB.out.2.1; omega⟩
  obtain ⟨an, han⟩ : ∃ an : Nat, a.n = (an : Int) := ⟨a.n.toNat, by have := RB.out.2.2.1; omega⟩
  have HAB := Lib.hid (show a.b.toNat = ab by omega); have HAN := Lib.hid (show a.n.toNat = an by omega)
  have HANI := Lib.hid han
  have k1 : w1.cell? ⟨x, 1, none⟩ = some (.int .i64 (ab : Int)) := by rw [← hab]; exact O1.out.b
  have k3 : w1.cell? ⟨x, 66, none⟩ = some (.int .i64 (an : Int)) := by rw [← han]; exact O1.out.n
  unfold pv
  clear h n1 hc hn ha hK ho hr hak hab han
  go_enter Try.func27, Try.ntmps27
  go_upto_region 1 with fail
  clear hw1 hx
  have hkk : ak = 1 ∨ ak = 2 ∨ ak = 3 ∨ ak = 4 ∨ ak = 5 ∨ ak = 6 ∨ ak = 7 ∨ ak = 8 ∨ ak = 9 ∨ ak = 10 := by have := RB.out.1; have := HAK.out; omega
  rcases hkk with rfl | rfl | rfl | rfl | rfl | rfl | rfl | rfl | rfl | rfl
  · have HW := writes_any H1.out CC.out NN.out AA.out (by have := KK.out; omega) ab a.s OO.out
    unfold pv at HW
    have HW' := Lib.hid HW
    have hs64 : p64 a.s = a.s := p64_of OO.out
    have LD := Lib.hid (show ∀ j u, (a.s.map bv)[j]? = some u → w1.cell? ⟨x, 2 + j, none⟩ = some u from fun j u hu => O1.out.s j u (by rw [hs64]; exact hu))
    clear HW hs64
    go_wp2_with (first
      | (go_at_call 49; (with_reducible refine HW'.out.mono ?_); rintro e w2 ⟨rfl, h2⟩; have H2 := Lib.hid h2; clear h2)
      | (refine wpList_load_agg 33 _ rfl rfl rfl (a.s.map bv) (fun j u hu => LD.out j u hu) _ Try.underlying33 rfl (i33' OO.out) ?_))
    go_ret
    have hdp : doesP p S a = writeP p S ab a.s := by unfold doesP; rw [if_pos HAK.out, HAB.out]
    exact ⟨by rw [hdp]; rfl, by rw [hdp]; exact H2.out⟩
  · have HW := reads_any H1.out CC.out (by have := KK.out; omega) ab
    unfold pv at HW
    have HW' := Lib.hid HW
    clear HW
    go_wp2_with (go_at_call 50; (with_reducible refine HW'.out.mono ?_); rintro e w2 ⟨rfl, h2⟩; have H2 := Lib.hid h2; clear h2)
    go_ret
    have hdp : doesP p S a = ((readP p S ab).1, false, (readP p S ab).2) := by unfold doesP; rw [HAK.out, HAB.out, if_neg (by decide), if_pos rfl]
    exact ⟨by rw [hdp]; rfl, by rw [hdp]; exact H2.out.more (Nat.le_succ _)⟩
  · have hdp : doesP p S a = flushP S := by unfold doesP; rw [HAK.out, if_neg (by decide), if_neg (by decide), if_pos rfl]
    have HDP := Lib.hid hdp
    have HF := flS_any H1.out NN.out AA.out
    have m1 := mFlush q.t w1
    have HC2 := Lib.hid (fun w2 (v2 : Vr) (d : Bool) (h2 : SIv w0 q v2 K d p (flushT S) w2) => show w2.cell? ⟨q.st, 2, none⟩ = some (pv q.g) from h2.so.cell 2)
    have HMF := Lib.hid (fun w2 (v2 : Vr) (d : Bool) (h2 : SIv w0 q v2 K d p (flushT S) w2) => mdf_any h2 (by have := KK.out; omega))
    have HD6 := Lib.hid (fun w2 (v2 : Vr) (d : Bool) (h2 : SIv w0 q v2 K d p (flushT S) w2) => down_any h2 6)
    obtain ⟨d, hd⟩ : ∃ d, powD S = d := ⟨_, rfl⟩
    rw [hd] at HF
    have HD := Lib.hid hd
    unfold FlS pv at HF
    unfold pv at HC2 HMF HD6
    unfold Still at HD6
    clear hdp hd
    rcases d with _ | _
    · simp only [Bool.false_eq_true, if_false] at HF
      have HF' := Lib.hid HF; clear HF
      go_wp2_with (first
        | (go_at_call 51; refine (HMF.out _ _ _ h2).mono ?_; rintro e w3 ⟨rfl, h3⟩; have H3 := Lib.hid h3; clear h3)
        | (go_at_call 113; (with_reducible refine HF'.out.mono ?_); rintro e w2 ⟨rfl, v2, h2⟩; have d2 := HC2.out _ _ _ h2))
      go_ret
      exact ⟨by rw [HDP.out]; rfl, by rw [HDP.out]; unfold flushP; rw [HD.out]; exact H3.out.more (Nat.le_succ _)⟩
    · simp only [if_true] at HF
      have HF' := Lib.hid HF; clear HF
      go_wp2_with (first
        | (go_at_call 52; refine (HD6.out _ _ _ h2).mono ?_; rintro e w3 ⟨rfl, rfl⟩)
        | (go_at_call 113; (with_reducible refine HF'.out.mono ?_); rintro e w2 ⟨rfl, v2, h2⟩))
      go_ret
      exact ⟨by rw [HDP.out]; rfl, by rw [HDP.out]; unfold flushP; rw [HD.out]; exact ⟨v2, (h2.same rfl rfl rfl rfl rfl rfl rfl rfl rfl).more (Nat.le_succ _)⟩⟩
  · have hdp : doesP p S a = stepP p S (an : Int) := by unfold doesP; rw [HAK.out, if_neg (by decide), if_neg (by decide), if_neg (by decide), if_pos rfl, HANI.out]
    have HDP := Lib.hid hdp
    have HT := stS_any (show ActO w1.drew x a from O1.out) H1.out.drew CC.out NN.out AA.out (by rw [HANI.out]; omega)
    rw [HANI.out] at HT
    have m1 := mStep q.t w1.drew
    have HDN := Lib.hid (fun w2 (h2 : SIv w0 q v K (stepP p S (an : Int)).2.1 p (stepP p S (an : Int)).2.2 w2) e => down_any h2 e)
    obtain ⟨b, hb⟩ : ∃ b, (StepV p S (an : Int)).1 = b := ⟨_, rfl⟩
    obtain ⟨e1, he1⟩ : ∃ e1, (StepV p S (an : Int)).2 = e1 := ⟨_, rfl⟩
    rw [hb, he1] at HT
    have HSV := Lib.hid (show StepV p S (an : Int) = (b, e1) by rw [← hb, ← he1])
    unfold StS pv at HT
    unfold Still pv at HDN
    have HT' := Lib.hid HT
    have f1 : ∀ w', Nw w1 w' → w'.cell? ⟨q.st, 1, none⟩ = some (.iface 28 (.pointer (some ⟨q.t, 0, none⟩))) := fun w' k => (H1.out.so.nw k).cell 1
    have f3 : ∀ w', Nw w1 w' → w'.cell? ⟨x, 66, none⟩ = some (.int .i64 (an : Int)) := fun w' k => by rw [← HANI.out]; exact (O1.out.nw k).n
    clear hdp HT hb he1
    go_upto_region 12 with fail
    refine wp_region_U [6] (fun w' => Nw w1 w') (by kernel_rfl) ?_
    change wpU _ _ _ _ _ _ _ _ _ (World.drew w1)
    refine U_segP (r := [0, 1, 2, 4]) (fuel := 8) rfl (by kernel_rfl) (by kernel_rfl) (by simp only [List.filterMap_cons, List.filterMap_nil, List.getElem?_toArray, List.getElem?_cons_succ, List.getElem?_cons_zero]; rfl) (fun _ _ d _ _ h => by cases d <;> exact h) (until_of (gb_drew (Nw.refl w1))) ?_
    iterate 4 (refine wpYield_step rfl (fun K hK => ?_)
               apply Exists.intro
               refine ⟨fun w' hw' => ?_, ?_⟩
               · (go_simp; try with_reducible rfl)
               go_simp
               refine hK _ ?_
               clear hK K)
    refine wpYield_nil ?_
    refine U_segL (r := [3, 5]) (fuel := 6) rfl (by kernel_rfl) (by kernel_rfl) (by simp only [List.filterMap_cons, List.filterMap_nil, List.getElem?_toArray, List.getElem?_cons_succ, List.getElem?_cons_zero]; rfl) (fun _ _ d _ _ h => by cases d <;> exact h) (gb_drew (Nw.refl w1)) ?_
    iterate 2 (refine wpYield_step rfl (fun K hK => ?_)
               apply Exists.intro
               refine ⟨fun w' hw' => ?_, ?_⟩
               · (go_simp; try with_reducible rfl)
               go_simp
               refine hK _ ?_
               clear hK K)
    refine wpYield_nil ?_
    clear f1 f3
    refine U_eff 6 rfl (by kernel_rfl) rfl (fun K hK => ?_)
    go_simp
    refine HT'.out.mono ?_
    rintro e w2 ⟨rfl, h2, k3'⟩
    have H2 := Lib.hid h2
    have HD := HDN.out w2 h2
    refine hK _ _ ⟨until_past (by kernel_rfl), ?_⟩
    clear hK K m1 h2 HT' HDN c1 c2 k0 k1 k3
    refine U_segP (r := [7, 8, 9, 10, 11]) (fuel := 0) rfl (by kernel_rfl) (by kernel_rfl) (by simp only [List.filterMap_cons, List.filterMap_nil, List.getElem?_toArray, List.getElem?_cons_succ, List.getElem?_cons_zero]; rfl) (fun _ _ d _ _ h => by cases d <;> exact h) (until_past (by kernel_rfl)) ?_
    iterate 5 (refine wpYield_step rfl (fun K hK => ?_)
               apply Exists.intro
               refine ⟨fun w' hw' => ?_, ?_⟩
               · (go_simp; try with_reducible rfl)
               go_simp
               refine hK _ ?_
               clear hK K)
    refine wpYield_nil ?_
    refine U_done (by kernel_rfl) ?_ _
    rcases (show 7 < an ∨ an ≤ 7 by omega) with h7 | h7
    · have d7 : decide ((7 : Int) < (an : Int)) = true := decide_eq_true (by omega)
      have hsv := HSV.out
      have hst : stepP p S (an : Int) = (!lieB p S, false, lieS p S) := by unfold stepP; rw [if_pos (by omega)]
      unfold StepV at hsv; rw [if_pos (by omega)] at hsv
      have HST := Lib.hid hst
      obtain ⟨qq, hqq⟩ : ∃ qq, lieB p S = qq := ⟨_, rfl⟩
      rw [hqq] at HST hsv
      clear hst HD hqq
      rcases qq with _ | _
      all_goals
        · simp only [Bool.false_eq_true, if_false, if_true, Prod.mk.injEq] at hsv
          obtain ⟨rfl, rfl⟩ := hsv
          go_wp2
          go_ret
          exact ⟨by rw [HDP.out, HST.out]; rfl, by rw [HDP.out]; exact ⟨v, H2.out.more (Nat.le_succ _)⟩⟩
    · have d7 : decide ((7 : Int) < (an : Int)) = false := decide_eq_false (by omega)
      have hsv := HSV.out
      unfold StepV at hsv; rw [if_neg (by omega)] at hsv
      rcases hl : lieB p S with _ | _
      · rw [hl, if_neg Bool.false_ne_true] at hsv
        rcases hd : powD S with _ | _
        · rw [hd] at hsv
          simp only [Bool.false_eq_true, if_false, Prod.mk.injEq] at hsv
          obtain ⟨rfl, rfl⟩ := hsv
          have hst : stepP p S (an : Int) = (true, false, powS (lieS p S)) := by unfold stepP; rw [if_neg (by omega), hl, if_neg Bool.false_ne_true, hd]
          have HST := Lib.hid hst
          clear hst HD hl hd
          go_wp2
          go_ret
          exact ⟨by rw [HDP.out, HST.out]; rfl, by rw [HDP.out]; exact ⟨v, H2.out.more (Nat.le_succ _)⟩⟩
        · rw [hd] at hsv
          simp only [if_true, Prod.mk.injEq] at hsv
          obtain ⟨rfl, rfl⟩ := hsv
          have hst : stepP p S (an : Int) = (true, true, powS (lieS p S)) := by unfold stepP; rw [if_neg (by omega), hl, if_neg Bool.false_ne_true, hd]
          have HST := Lib.hid hst
          have HD1 := HD 6
          rw [hst, show (decide ((6 : Int) = 6) && true) = true from rfl] at HD1
          have HD' := Lib.hid HD1
          clear hst HD HD1 hl hd
          go_wp2_with ((with_reducible refine HD'.out.mono ?_); rintro e w3 ⟨rfl, rfl⟩)
          go_ret
          exact ⟨by rw [HDP.out, HST.out]; rfl, by rw [HDP.out]; exact ⟨v, H2.out.more (Nat.le_succ _)⟩⟩
      · rw [hl, if_pos rfl] at hsv
        simp only [Prod.mk.injEq] at hsv
        obtain ⟨rfl, rfl⟩ := hsv
        have hst : stepP p S (an : Int) = (false, false, lieS p S) := by unfold stepP; rw [if_neg (by omega), hl, if_pos rfl]
        have HST := Lib.hid hst
        have HD1 := HD 1
        rw [hst, show (decide ((1 : Int) = 6) && false) = false from rfl] at HD1
        have HD' := Lib.hid HD1
        clear hst HD HD1 hl
        go_wp2_with ((with_reducible refine HD'.out.mono ?_); rintro e w3 ⟨rfl, rfl⟩)
        go_ret
        exact ⟨by rw [HDP.out, HST.out]; rfl, by rw [HDP.out]; exact ⟨v, H2.out.more (Nat.le_succ _)⟩⟩
  · have HW := adds_any H1.out CC.out NN.out (an : Int) (by omega)
    unfold pv at HW
    have HW' := Lib.hid HW
    clear HW
    go_wp2_with (go_at_call 53; (with_reducible refine HW'.out.mono ?_); rintro e w2 ⟨rfl, h2⟩; have H2 := Lib.hid h2; clear h2)
    go_ret
    have hdp : doesP p S a = addP p S (an : Int) := by unfold doesP; rw [HAK.out, if_neg (by decide), if_neg (by decide), if_neg (by decide), if_neg (by decide), if_pos rfl, HANI.out]
    have hd0 : (addP p S (an : Int)).2.1 = false := by unfold addP; split <;> (try split) <;> rfl
    exact ⟨by rw [hdp]; rfl, by rw [hdp, hd0]; exact H2.out.more (Nat.le_succ _)⟩
  · have HW := loses_any (a := a) H1.out NN.out ⟨by rw [HANI.out]; omega, by have := RB.out.2.2.2.2; have := HAK.out; omega⟩
    unfold pv at HW
    have HW' := Lib.hid HW
    clear HW
    go_wp2_with (first
      | (go_at_call 54; (with_reducible refine HW'.out.mono ?_); rintro e w2 ⟨rfl, h2⟩; have H2 := Lib.hid h2; clear h2)
      | (refine wpList_load44 _ rfl rfl rfl O1.out ?_))
    go_ret
    have hdp : doesP p S a = (true, false, S) := by unfold doesP; rw [HAK.out]; rfl
    exact ⟨by rw [hdp]; rfl, by rw [hdp]; exact H2.out.more (Nat.le_succ _)⟩
  · obtain ⟨am, ham⟩ : ∃ am, a.m = am := ⟨_, rfl⟩
    have HAM := Lib.hid ham
    have fn : ∀ w', ActO w' x a → w'.cell? ⟨x, 66, none⟩ = some (.int .i64 (an : Int)) := fun w' k => by rw [← HANI.out]; exact k.n
    have fm : ∀ w', ActO w' x a → w'.cell? ⟨x, 68, none⟩ = some (.int .u64 (am : Int)) := fun w' k => by rw [← HAM.out]; exact k.m
    have xst := Lib.hid (show x ≠ q.st from Obj1.ne O1.out H1.out.so (by decide))
    have s6 : w1.drew.cell? ⟨q.st, 6, none⟩ = some (.int .i64 (S.again : Int)) := H1.out.so.cell 6
    have s6f : w1.drew.frozen? ⟨q.st, 6, none⟩ = false := H1.out.so.frozen 6
    clear ham
    go_upto_region 22 with fail
    clear k0 k1 k3 c1 c2
    refine wp_region_held (S := (fun w' => ActO w' x a)) (by kernel_rfl) ?_
    change wpAnyH _ _ _ _ _ _ _ _ (World.drew w1)
    refine held_seg' (l := [0, 1, 2, 3, 4, 5, 6, 7]) (fuel := 4) rfl (by kernel_rfl) (by kernel_rfl) (by simp only [List.filterMap_cons, List.filterMap_nil, List.getElem?_toArray, List.getElem?_cons_succ, List.getElem?_cons_zero]; rfl) (fun _ _ d _ _ h => by cases d <;> exact h) O1.out ?_
    iterate 8 (refine wpYield_step rfl (fun K hK => ?_)
               apply Exists.intro
               refine ⟨fun w' hw' => ?_, ?_⟩
               · (go_simp; try with_reducible rfl)
               go_simp
               refine hK _ ?_
               clear hK K)
    refine wpYield_nil ?_
    refine held_eff 8 rfl (by kernel_rfl) rfl (fun K hK => ?_)
    go_simp
    have O2 := Lib.hid (show ActO (w1.drew.setCell ⟨q.st, 6, none⟩ (.int .i64 (an : Int))) x a from (show ActO w1.drew x a from O1.out).other (gb_set _ q.st 6 _) xst.out)
    have Q2 := Lib.hid (show Obj1 (w1.drew.setCell ⟨q.st, 6, none⟩ (.int .i64 (an : Int))) q.st 70 (stC q (tIf q.t) (tIf q.t) p.bl an v.lost v.mask) from H1.out.drew.so.set 6 (.int .i64 (an : Int)))
    refine hK _ _ ⟨O2.out, ?_⟩
    clear hK K s6 s6f
    have s7 : (w1.setCell ⟨q.st, 6, none⟩ (.int .i64 (an : Int))).drew.cell? ⟨q.st, 7, none⟩ = some (.int .u64 (v.mask : Int)) := Q2.out.cell 7
    have s7f : (w1.setCell ⟨q.st, 6, none⟩ (.int .i64 (an : Int))).drew.frozen? ⟨q.st, 7, none⟩ = false := Q2.out.frozen 7
    refine held_seg' (l := [9, 10]) (fuel := 1) rfl (by kernel_rfl) (by kernel_rfl) (by simp only [List.filterMap_cons, List.filterMap_nil, List.getElem?_toArray, List.getElem?_cons_succ, List.getElem?_cons_zero]; rfl) (fun _ _ d _ _ h => by cases d <;> exact h) O2.out ?_
    iterate 2 (refine wpYield_step rfl (fun K hK => ?_)
               apply Exists.intro
               refine ⟨fun w' hw' => ?_, ?_⟩
               · (go_simp; try with_reducible rfl)
               go_simp
               refine hK _ ?_
               clear hK K)
    refine wpYield_nil ?_
    refine held_eff 11 rfl (by kernel_rfl) rfl (fun K hK => ?_)
    go_simp
    have O3 := Lib.hid (show ActO ((w1.setCell ⟨q.st, 6, none⟩ (.int .i64 (an : Int))).setCell ⟨q.st, 7, none⟩ (.int .u64 (am : Int))).drew x a from O2.out.other (gb_set _ q.st 7 _) xst.out)
    have Q3 := Lib.hid (show Obj1 ((w1.setCell ⟨q.st, 6, none⟩ (.int .i64 (an : Int))).setCell ⟨q.st, 7, none⟩ (.int .u64 (am : Int))).drew q.st 70 (stC q (tIf q.t) (tIf q.t) p.bl an v.lost am) from Q2.out.set 7 (.int .u64 (am : Int)))
    have K3 : Chg w1 ((w1.setCell ⟨q.st, 6, none⟩ (.int .i64 (an : Int))).setCell ⟨q.st, 7, none⟩ (.int .u64 (am : Int))).drew [q.st] := ((Chg.set w1 (F := [q.st]) (p := ⟨q.st, 6, none⟩) (by simp) _).trans (Chg.set _ (F := [q.st]) (p := ⟨q.st, 7, none⟩) (by simp) _) (fun _ h => .inl h)).drew
    have H3 := Lib.hid (H1.out.stg (lost := v.lost) (mask := am) (ag := an) K3 Q3.out)
    refine hK _ _ ⟨O3.out, ?_⟩
    clear hK K s7 s7f K3 Q3 Q2 O2 fn fm
    refine wpAnyH_done (by kernel_rfl) ?_ _
    generalize ((w1.setCell ⟨q.st, 6, none⟩ (.int .i64 (an : Int))).setCell ⟨q.st, 7, none⟩ (.int .u64 (am : Int))).drew = w3 at O3 H3 ⊢
    have f0 : ∀ w', Nw w3 w' → w'.cell? ⟨q.st, 0, none⟩ = some (.pointer (some ⟨q.b, 0, none⟩)) := fun w' k => (H3.out.so.nw k).cell 0
    have fm : ∀ w', Nw w3 w' → w'.cell? ⟨x, 68, none⟩ = some (.int .u64 (am : Int)) := fun w' k => by rw [← HAM.out]; exact (O3.out.nw k).m
    have HC := crash_up H3.out.drew.tb.bk (by have h1 := H3.out.tb.nd; have h2 := NN.out; show v.ms.length ≤ 30; have h3 : v.ms.length = S.nd := h1; omega) am
    rw [show (({ v with lost := v.lost, mask := am } : Vr).y q).b = q.b from rfl] at HC
    unfold BPost pv at HC
    have HC' := Lib.hid HC
    clear HC
    go_upto_region 23 with fail
    refine wp_region_U [6] (fun w' => Nw w3 w') (by kernel_rfl) ?_
    change wpU _ _ _ _ _ _ _ _ _ (World.drew w3)
    refine U_segP (r := [0, 1, 2, 4]) (fuel := 3) rfl (by kernel_rfl) (by kernel_rfl) (by simp only [List.filterMap_cons, List.filterMap_nil, List.getElem?_toArray, List.getElem?_cons_succ, List.getElem?_cons_zero]; rfl) (fun _ _ d _ _ h => by cases d <;> exact h) (until_of (gb_drew (Nw.refl w3))) ?_
    iterate 4 (refine wpYield_step rfl (fun K hK => ?_)
               apply Exists.intro
               refine ⟨fun w' hw' => ?_, ?_⟩
               · (go_simp; try with_reducible rfl)
               go_simp
               refine hK _ ?_
               clear hK K)
    refine wpYield_nil ?_
    refine U_segL (r := [3, 5]) (fuel := 1) rfl (by kernel_rfl) (by kernel_rfl) (by simp only [List.filterMap_cons, List.filterMap_nil, List.getElem?_toArray, List.getElem?_cons_succ, List.getElem?_cons_zero]; rfl) (fun _ _ d _ _ h => by cases d <;> exact h) (gb_drew (Nw.refl w3)) ?_
    iterate 2 (refine wpYield_step rfl (fun K hK => ?_)
               apply Exists.intro
               refine ⟨fun w' hw' => ?_, ?_⟩
               · (go_simp; try with_reducible rfl)
               go_simp
               refine hK _ ?_
               clear hK K)
    refine wpYield_nil ?_
    clear f0 fm
    refine U_eff 6 rfl (by kernel_rfl) rfl (fun K hK => ?_)
    go_simp
    refine HC'.out.mono ?_
    rintro e w5 ⟨rfl, b5⟩
    have B5 := Lib.hid b5
    refine hK _ _ ⟨until_past (by kernel_rfl), ?_⟩
    clear hK K b5
    refine U_done (by kernel_rfl) ?_ _
    go_wp2
    go_ret
    have hdp : doesP p S a = (true, true, { S with again := an, ar := 0 }) := by unfold doesP; rw [HAK.out, HAN.out]; rfl
    exact ⟨by rw [hdp]; rfl, by rw [hdp]; exact ⟨_, (H3.out.drew.bank (ar := 0) B5.out).more (Nat.le_succ _)⟩⟩
  · obtain ⟨am, ham⟩ : ∃ am, a.m = am := ⟨_, rfl⟩
    have HAM := Lib.hid ham
    have fn : ∀ w', ActO w' x a → w'.cell? ⟨x, 66, none⟩ = some (.int .i64 (an : Int)) := fun w' k => by rw [← HANI.out]; exact k.n
    have fm : ∀ w', ActO w' x a → w'.cell? ⟨x, 68, none⟩ = some (.int .u64 (am : Int)) := fun w' k => by rw [← HAM.out]; exact k.m
    have xst := Lib.hid (show x ≠ q.st from Obj1.ne O1.out H1.out.so (by decide))
    have s6 : w1.drew.cell? ⟨q.st, 6, none⟩ = some (.int .i64 (S.again : Int)) := H1.out.so.cell 6
    have s6f : w1.drew.frozen? ⟨q.st, 6, none⟩ = false := H1.out.so.frozen 6
    clear ham
    go_upto_region 25 with fail
    clear k0 k1 k3 c1 c2
    refine wp_region_held (S := (fun w' => ActO w' x a)) (by kernel_rfl) ?_
    change wpAnyH _ _ _ _ _ _ _ _ (World.drew w1)
    refine held_seg' (l := [0, 1, 2, 3, 4, 5, 6, 7]) (fuel := 4) rfl (by kernel_rfl) (by kernel_rfl) (by simp only [List.filterMap_cons, List.filterMap_nil, List.getElem?_toArray, List.getElem?_cons_succ, List.getElem?_cons_zero]; rfl) (fun _ _ d _ _ h => by cases d <;> exact h) O1.out ?_
    iterate 8 (refine wpYield_step rfl (fun K hK => ?_)
               apply Exists.intro
               refine ⟨fun w' hw' => ?_, ?_⟩
               · (go_simp; try with_reducible rfl)
               go_simp
               refine hK _ ?_
               clear hK K)
    refine wpYield_nil ?_
    refine held_eff 8 rfl (by kernel_rfl) rfl (fun K hK => ?_)
    go_simp
    have O2 := Lib.hid (show ActO (w1.drew.setCell ⟨q.st, 6, none⟩ (.int .i64 (an : Int))) x a from (show ActO w1.drew x a from O1.out).other (gb_set _ q.st 6 _) xst.out)
    have Q2 := Lib.hid (show Obj1 (w1.drew.setCell ⟨q.st, 6, none⟩ (.int .i64 (an : Int))) q.st 70 (stC q (tIf q.t) (tIf q.t) p.bl an v.lost v.mask) from H1.out.drew.so.set 6 (.int .i64 (an : Int)))
    refine hK _ _ ⟨O2.out, ?_⟩
    clear hK K s6 s6f
    have s7 : (w1.setCell ⟨q.st, 6, none⟩ (.int .i64 (an : Int))).drew.cell? ⟨q.st, 7, none⟩ = some (.int .u64 (v.mask : Int)) := Q2.out.cell 7
    have s7f : (w1.setCell ⟨q.st, 6, none⟩ (.int .i64 (an : Int))).drew.frozen? ⟨q.st, 7, none⟩ = false := Q2.out.frozen 7
    refine held_seg' (l := [9, 10]) (fuel := 1) rfl (by kernel_rfl) (by kernel_rfl) (by simp only [List.filterMap_cons, List.filterMap_nil, List.getElem?_toArray, List.getElem?_cons_succ, List.getElem?_cons_zero]; rfl) (fun _ _ d _ _ h => by cases d <;> exact h) O2.out ?_
    iterate 2 (refine wpYield_step rfl (fun K hK => ?_)
               apply Exists.intro
               refine ⟨fun w' hw' => ?_, ?_⟩
               · (go_simp; try with_reducible rfl)
               go_simp
               refine hK _ ?_
               clear hK K)
    refine wpYield_nil ?_
    refine held_eff 11 rfl (by kernel_rfl) rfl (fun K hK => ?_)
    go_simp
    have O3 := Lib.hid (show ActO ((w1.setCell ⟨q.st, 6, none⟩ (.int .i64 (an : Int))).setCell ⟨q.st, 7, none⟩ (.int .u64 (am : Int))).drew x a from O2.out.other (gb_set _ q.st 7 _) xst.out)
    have Q3 := Lib.hid (show Obj1 ((w1.setCell ⟨q.st, 6, none⟩ (.int .i64 (an : Int))).setCell ⟨q.st, 7, none⟩ (.int .u64 (am : Int))).drew q.st 70 (stC q (tIf q.t) (tIf q.t) p.bl an v.lost am) from Q2.out.set 7 (.int .u64 (am : Int)))
    have K3 : Chg w1 ((w1.setCell ⟨q.st, 6, none⟩ (.int .i64 (an : Int))).setCell ⟨q.st, 7, none⟩ (.int .u64 (am : Int))).drew [q.st] := ((Chg.set w1 (F := [q.st]) (p := ⟨q.st, 6, none⟩) (by simp) _).trans (Chg.set _ (F := [q.st]) (p := ⟨q.st, 7, none⟩) (by simp) _) (fun _ h => .inl h)).drew
    have H3 := Lib.hid (H1.out.stg (lost := v.lost) (mask := am) (ag := an) K3 Q3.out)
    refine hK _ _ ⟨O3.out, ?_⟩
    clear hK K s7 s7f K3 Q3 Q2 O2 fn fm
    refine wpAnyH_done (by kernel_rfl) ?_ _
    generalize ((w1.setCell ⟨q.st, 6, none⟩ (.int .i64 (an : Int))).setCell ⟨q.st, 7, none⟩ (.int .u64 (am : Int))).drew = w3 at O3 H3 ⊢
    have f0 : ∀ w', Nw w3 w' → w'.cell? ⟨q.st, 0, none⟩ = some (.pointer (some ⟨q.b, 0, none⟩)) := fun w' k => (H3.out.so.nw k).cell 0
    have fm : ∀ w', Nw w3 w' → w'.cell? ⟨x, 68, none⟩ = some (.int .u64 (am : Int)) := fun w' k => by rw [← HAM.out]; exact (O3.out.nw k).m
    obtain ⟨aa, haa⟩ : ∃ aa : Nat, a.at' = (aa : Int) := ⟨a.at'.toNat, by have := RB.out.2.2.2.1; omega⟩
    have HAT := Lib.hid haa
    have ft : ∀ w', Nw w3 w' → w'.cell? ⟨x, 67, none⟩ = some (.int .i64 (aa : Int)) := fun w' k => by rw [← HAT.out]; exact (O3.out.nw k).t
    have HA := Lib.hid (fun n => arm_any H3.out.drew.tb.bk n am)
    rw [show (({ v with lost := v.lost, mask := am } : Vr).y q).b = q.b from rfl] at HA
    unfold BPost pv at HA
    clear haa
    rcases (show aa = 0 ∨ 1 ≤ aa by omega) with rfl | h1
    · skip
      go_upto_region 26 with fail
      refine wp_region_U [6, 9] (fun w' => Nw w3 w') (by kernel_rfl) ?_
      change wpU _ _ _ _ _ _ _ _ _ (World.drew w3)
      refine U_segP (r := [0, 1, 2, 4, 7]) (fuel := 5) rfl (by kernel_rfl) (by kernel_rfl) (by simp only [List.filterMap_cons, List.filterMap_nil, List.getElem?_toArray, List.getElem?_cons_succ, List.getElem?_cons_zero]; rfl) (fun _ _ d _ _ h => by cases d <;> exact h) (until_of (gb_drew (Nw.refl w3))) ?_
      iterate 5 (refine wpYield_step rfl (fun K hK => ?_)
                 apply Exists.intro
                 refine ⟨fun w' hw' => ?_, ?_⟩
                 · (go_simp; try with_reducible rfl)
                 go_simp
                 refine hK _ ?_
                 clear hK K)
      refine wpYield_nil ?_
      refine U_segL (r := [3, 5, 6, 8]) (fuel := 1) rfl (by kernel_rfl) (by kernel_rfl) (by simp only [List.filterMap_cons, List.filterMap_nil, List.getElem?_toArray, List.getElem?_cons_succ, List.getElem?_cons_zero]; rfl) (fun _ _ d _ _ h => by cases d <;> exact h) (gb_drew (Nw.refl w3)) ?_
      iterate 4 (refine wpYield_step rfl (fun K hK => ?_)
                 apply Exists.intro
                 refine ⟨fun w' hw' => ?_, ?_⟩
                 · (go_simp; try with_reducible rfl)
                 go_simp
                 refine hK _ ?_
                 clear hK K)
      refine wpYield_nil ?_
      clear f0 fm ft
      refine U_eff 9 rfl (by kernel_rfl) rfl (fun K hK => ?_)
      go_simp
      refine (HA.out (1 : Int)).mono ?_
      rintro e w5 ⟨rfl, b5⟩
      rw [show (max (1 : Int) 0 : Int) = (((max a.at' 1).toNat : Nat) : Int) from by rw [HAT.out]; omega] at b5
      have B5 := Lib.hid b5
      refine hK _ _ ⟨until_past (by kernel_rfl), ?_⟩
      clear hK K b5
      refine U_done (by kernel_rfl) ?_ _
      go_wp2
      go_ret
      have hdp : doesP p S a = (true, false, { S with again := an, ar := (max a.at' 1).toNat }) := by unfold doesP; rw [HAK.out, if_neg (by decide), if_neg (by decide), if_neg (by decide), if_neg (by decide), if_neg (by decide), if_neg (by decide), if_pos rfl, HAN.out]
      exact ⟨by rw [hdp]; rfl, by rw [hdp]; exact ⟨_, (H3.out.drew.bank B5.out).more (Nat.le_succ _)⟩⟩
    · skip
      go_upto_region 26 with fail
      refine wp_region_U [6, 9] (fun w' => Nw w3 w') (by kernel_rfl) ?_
      change wpU _ _ _ _ _ _ _ _ _ (World.drew w3)
      refine U_segP (r := [0, 1, 2, 4, 7]) (fuel := 5) rfl (by kernel_rfl) (by kernel_rfl) (by simp only [List.filterMap_cons, List.filterMap_nil, List.getElem?_toArray, List.getElem?_cons_succ, List.getElem?_cons_zero]; rfl) (fun _ _ d _ _ h => by cases d <;> exact h) (until_of (gb_drew (Nw.refl w3))) ?_
      iterate 5 (refine wpYield_step rfl (fun K hK => ?_)
                 apply Exists.intro
                 refine ⟨fun w' hw' => ?_, ?_⟩
                 · (go_simp; try with_reducible rfl)
                 go_simp
                 refine hK _ ?_
                 clear hK K)
      refine wpYield_nil ?_
      refine U_segL (r := [3, 5, 6, 8]) (fuel := 1) rfl (by kernel_rfl) (by kernel_rfl) (by simp only [List.filterMap_cons, List.filterMap_nil, List.getElem?_toArray, List.getElem?_cons_succ, List.getElem?_cons_zero]; rfl) (fun _ _ d _ _ h => by cases d <;> exact h) (gb_drew (Nw.refl w3)) ?_
      iterate 4 (refine wpYield_step rfl (fun K hK => ?_)
                 apply Exists.intro
                 refine ⟨fun w' hw' => ?_, ?_⟩
                 · (go_simp; try with_reducible rfl)
                 go_simp
                 refine hK _ ?_
                 clear hK K)
      refine wpYield_nil ?_
      clear f0 fm ft
      refine U_eff 9 rfl (by kernel_rfl) rfl (fun K hK => ?_)
      go_simp
      refine (HA.out (if (aa : Int) < 1 then (1 : Int) else (aa : Int))).mono ?_
      rintro e w5 ⟨rfl, b5⟩
      rw [show (max (if (aa : Int) < 1 then (1 : Int) else (aa : Int)) 0 : Int) = (((max a.at' 1).toNat : Nat) : Int) from by rw [HAT.out, if_neg (by omega)]; omega] at b5
      have B5 := Lib.hid b5
      refine hK _ _ ⟨until_past (by kernel_rfl), ?_⟩
      clear hK K b5
      refine U_done (by kernel_rfl) ?_ _
      go_wp2
      go_ret
      have hdp : doesP p S a = (true, false, { S with again := an, ar := (max a.at' 1).toNat }) := by unfold doesP; rw [HAK.out, if_neg (by decide), if_neg (by decide), if_neg (by decide), if_neg (by decide), if_neg (by decide), if_neg (by decide), if_pos rfl, HAN.out]
      exact ⟨by rw [hdp]; rfl, by rw [hdp]; exact ⟨_, (H3.out.drew.bank B5.out).more (Nat.le_succ _)⟩⟩
  · have HW := loses_any (a := a) H1.out NN.out ⟨by rw [HANI.out]; omega, by have := RB.out.2.2.2.2; have := HAK.out; omega⟩
    unfold pv at HW
    have HW' := Lib.hid HW
    clear HW
    go_wp2_with (first
      | (go_at_call 54; (with_reducible refine HW'.out.mono ?_); rintro e w2 ⟨rfl, h2⟩; have H2 := Lib.hid h2; clear h2)
      | (refine wpList_load44 _ rfl rfl rfl O1.out ?_))
    go_ret
    have hdp : doesP p S a = (true, false, S) := by unfold doesP; rw [HAK.out]; rfl
    exact ⟨by rw [hdp]; rfl, by rw [hdp]; exact H2.out.more (Nat.le_succ _)⟩
  · have hdp : doesP p S a = (true, true, { flushT S with ar := 0 }) := by unfold doesP; rw [HAK.out]; rfl
    have HDP := Lib.hid hdp
    have HF := flS_any H1.out NN.out AA.out
    have m1 := mFlush q.t w1
    have HC0 := Lib.hid (fun w2 (v2 : Vr) (d : Bool) (h2 : SIv w0 q v2 K d p (flushT S) w2) => show w2.cell? ⟨q.st, 0, none⟩ = some (pv q.b) from h2.so.cell 0)
    obtain ⟨d, hd⟩ : ∃ d, powD S = d := ⟨_, rfl⟩
    rw [hd] at HF
    have HD := Lib.hid hd
    unfold FlS pv at HF
    unfold pv at HC0
    have HF' := Lib.hid HF
    have HNN := NN.out
    have HCU := Lib.hid (fun w2 (v2 : Vr) (h2 : SIv w0 q v2 K false p (flushT S) w2) => show Calls Try.prog 55 #[pv q.b, .int .u64 ((0 : Nat) : Int)] w2 (BPost (.tuple #[]) q.b v2.A v2.c v2.ms true 0 w2) from crash_up h2.tb.bk (by have h1 : v2.ms.length = S.nd := h2.tb.nd; show v2.ms.length ≤ 30; omega) 0)
    have HCD := Lib.hid (fun w2 (v2 : Vr) (h2 : SIv w0 q v2 K true p (flushT S) w2) => show Calls Try.prog 55 #[pv q.b, .int .u64 ((0 : Nat) : Int)] w2 (Still (.tuple #[]) w2) from crash_dn h2.tb.bk _)
    unfold BPost pv at HCU
    unfold Still pv at HCD
    clear hdp HF hd HNN
    rcases d with _ | _
    · go_wp2_with (first
        | (go_at_call 55; refine (HCU.out _ _ h2).mono ?_; rintro e w3 ⟨rfl, b3⟩)
        | (go_at_call 113; (with_reducible refine HF'.out.mono ?_); rintro e w2 ⟨rfl, v2, h2⟩; have d2 := HC0.out _ _ _ h2))
      go_ret
      exact ⟨by rw [HDP.out]; rfl, by rw [HDP.out]; exact ⟨_, (h2.bank (ar := 0) b3).more (Nat.le_succ _)⟩⟩
    · go_wp2_with (first
        | (go_at_call 55; refine (HCD.out _ _ h2).mono ?_; rintro e w3 ⟨rfl, rfl⟩)
        | (go_at_call 113; (with_reducible refine HF'.out.mono ?_); rintro e w2 ⟨rfl, v2, h2⟩; have d2 := HC0.out _ _ _ h2))
      go_ret
      have h1 : S.ar = 1 := of_decide_eq_true HD.out
      exact ⟨by rw [HDP.out]; rfl, by rw [HDP.out]; exact ⟨_, (h2.same (S' := { flushT S with ar := 0 }) (by show 0 = S.ar - 1; omega) rfl rfl rfl rfl rfl rfl rfl rfl).more (Nat.le_succ _)⟩⟩
end
end Go.Proofs.Ytmcgfnfhpcddlaa


/- The stage's rises: all up again behind a fall. -/
namespace Go.Proofs.Ytmcgfnfhpcddlaa
open Go.RowKit Go.BW

section
variable {w0 w w' : World} {q : Fx} {v : Vr} {K : Nat} {dn dn' : Bool} {p : Par} {S S' T : St}
theorem mdfall_any (h : SIv w0 q v K dn p S w) : Calls Try.prog 57 #[pv q.g] w (fun e w' => e = .returned (.tuple #[]) ∧ SI w0 q K dn p { S with M := S.M.map Md.fallB } w') := by
  refine (Md.fall_any h.md (by rw [h.ml]; exact h.tb.ti.bl.2)).mono ?_
  rintro e w' ⟨rfl, F', r5, k5, f5⟩
  exact ⟨rfl, _, h.mod k5 r5 f5 (by rw [List.length_map]; exact h.ml)⟩
def opened (p : Par) (T : St) : St := { selS T p.bl with keep := nextK T.keep }
theorem openOk_any (h : SIv w0 q v K false p T w) (hn : 1 ≤ T.nd ∧ T.nd ≤ 30) (ha : T.ar ≤ 1000) (hp : powD T = false) (u : Value) :
    Calls Try.prog 115 #[pv q.t, u] w (fun e w' => e = .returned (.tuple #[tIf q.t, .int .i64 0]) ∧ SIv w0 q v K false p (opened p T) w') :=
  (topen_any h.tb hn ha u).mono fun e w' he => by
    rcases he with ⟨h1, _⟩ | ⟨_, h2, h3, h4⟩
    · rw [hp] at h1; cases h1
    · exact ⟨h2, h.toy0 h4 h3 rfl rfl⟩
theorem openDn_any (h : SIv w0 q v K false p T w) (hn : 1 ≤ T.nd ∧ T.nd ≤ 30) (ha : T.ar ≤ 1000) (hp : powD T = true) (u : Value) :
    Calls Try.prog 115 #[pv q.t, u] w (fun e w' => e = .returned (.tuple #[.nilIface, .int .i64 6]) ∧ SIv w0 q v K true p (powS T) w') :=
  (topen_any h.tb hn ha u).mono fun e w' he => by
    rcases he with ⟨_, h2, h3, h4⟩ | ⟨h1, _⟩
    · exact ⟨h2, h.toy0 h4 h3 rfl rfl⟩
    · rw [hp] at h1; cases h1
theorem startS_any (h : SIv w0 q v K dn p S w) : Calls Try.prog 58 #[pv q.b] w (fun e w' => e = .returned (.tuple #[]) ∧ SIv w0 q v K false p S w') :=
  (start_any h.tb.bk).mono fun e w' he => ⟨he.1, h.bank he.2⟩
theorem armS_any (h : SIv w0 q v K false p S w) (g : Nat) (m : Nat) : Calls Try.prog 56 #[pv q.b, .int .i64 g, .int .u64 (m : Int)] w (fun e w' => e = .returned (.tuple #[]) ∧ SIv w0 q v K false p { S with ar := g } w') :=
  (arm_any h.tb.bk (g : Int) m).mono fun e w' he => ⟨he.1, by
    have b5 := he.2
    rw [show (max (g : Int) 0) = ((g : Nat) : Int) by omega] at b5
    exact h.bank b5⟩
/-- the device put anew -/
theorem SIv.setD (h : SIv w0 q v K dn p S w) : SIv w0 q v K dn p S (w.setCell ⟨q.st, 1, none⟩ (tIf q.t)) := by
  have o := h.so.set 1 (tIf q.t)
  exact h.stg (lost := v.lost) (mask := v.mask) (ag := S.again) (Chg.set w (by simp) _) o
set_option maxHeartbeats 8000000 in
set_option maxRecDepth 100000 in
theorem rises_any (h : SIv w0 q v K true p S w) (hc : S.calls ≤ 900000) (hn : 1 ≤ S.nd ∧ S.nd ≤ 30) (ha : S.ar = 0) (hg : S.again ≤ 1000) (hK : K ≤ 1000) :
    Calls Try.prog 29 #[pv q.st] w (fun e w' => e = .returned (.bool (riseP p S).1) ∧ SI w0 q K false p (riseP p S).2 w') := by
  obtain ⟨Sf, hSf⟩ : ∃ Sf, ({ S with M := S.M.map Md.fallB } : St) = Sf := ⟨_, rfl⟩
  have hrise : riseP p S = lookP p (openP p Sf) p.bl := by rw [← hSf]; rfl
  have HR := Lib.hid hrise
  have HFALL := mdfall_any h
  rw [hSf] at HFALL
  have hf1 : Sf.calls = S.calls := by rw [← hSf]
  have hf2 : Sf.nd = S.nd := by rw [← hSf]
  have hf3 : Sf.ar = 0 := by rw [← hSf]; exact ha
  have hf4 : Sf.again = S.again := by rw [← hSf]
  have CC := Lib.hid (show Sf.calls ≤ 900000 by omega); have NN := Lib.hid (show 1 ≤ Sf.nd ∧ Sf.nd ≤ 30 by omega); have A0 := Lib.hid hf3; have KK := Lib.hid hK
  have c2 : w.cell? ⟨q.st, 2, none⟩ = some (.pointer (some ⟨q.g, 0, none⟩)) := h.so.cell 2
  have HS0 := Lib.hid (fun w2 (v2 : Vr) (T : St) (d : Bool) (h2 : SIv w0 q v2 K d p T w2) => show w2.cell? ⟨q.st, 0, none⟩ = some (pv q.b) from h2.so.cell 0)
  have HS6 := Lib.hid (fun w2 (v2 : Vr) (T : St) (d : Bool) (h2 : SIv w0 q v2 K d p T w2) => show w2.cell? ⟨q.st, 6, none⟩ = some (.int .i64 (T.again : Int)) from h2.so.cell 6)
  have HST := Lib.hid (fun w2 (v2 : Vr) (T : St) (d : Bool) (h2 : SIv w0 q v2 K d p T w2) => startS_any h2)
  have HDN := Lib.hid (fun w2 (v2 : Vr) (T : St) (d : Bool) (h2 : SIv w0 q v2 K d p T w2) (e : Int) => down_any h2 e)
  obtain ⟨g, hgg⟩ : ∃ g, Sf.again = g := ⟨_, rfl⟩
  have G := Lib.hid hgg
  have GB := Lib.hid (show g ≤ 1000 by omega)
  unfold pv at HFALL HS0 HST HDN ⊢
  unfold Still at HDN
  have HFALL' := Lib.hid HFALL
  clear h HFALL hSf hrise hf1 hf2 hf3 hf4 hc hn ha hg hK hgg
  go_enter Try.func29, Try.ntmps29
  go_wp2_with ((with_reducible refine HFALL'.out.mono ?_); rintro e w1 ⟨rfl, v1, h1⟩; have H1 := Lib.hid h1; clear h1)
  clear c2 HFALL'
  have s0 : w1.cell? ⟨q.st, 0, none⟩ = some (.pointer (some ⟨q.b, 0, none⟩)) := HS0.out _ _ _ _ H1.out
  have ST1 := Lib.hid (HST.out _ _ _ _ H1.out)
  refine wp_loop_rounds 3 ?_
  rw [rounds_succ]
  rcases (show g = 0 ∨ g = 1 ∨ 2 ≤ g by omega) with rfl | rfl | h2
  · go_upto_region 8 with (go_at_call 58; (with_reducible refine ST1.out.mono ?_); rintro e w2 ⟨rfl, h2⟩; have H2 := Lib.hid h2; have t6 := HS6.out _ _ _ _ h2; rw [G.out] at t6; clear h2)
    have HOP := openOk_any H2.out.drew (by have := NN.out; exact this) (by rw [A0.out]; omega) (by unfold powD; rw [A0.out]; rfl) (.pointer (some ⟨q.b, 0, none⟩))
    have heq : opened p (Sf) = openP p Sf := by unfold opened openP selS powS; rw [A0.out, G.out]
    rw [heq] at HOP
    unfold tIf pv at HOP
    have HOP' := Lib.hid HOP
    have m1 := mOpen q.t w2.drew
    have f3 : ∀ w', Nw w2 w' → w'.cell? ⟨q.st, 3, none⟩ = some (.iface 28 (.pointer (some ⟨q.t, 0, none⟩))) := fun w' k => (H2.out.so.nw k).cell 3
    have f0 : ∀ w', Nw w2 w' → w'.cell? ⟨q.st, 0, none⟩ = some (.pointer (some ⟨q.b, 0, none⟩)) := fun w' k => (H2.out.so.nw k).cell 0
    clear HOP heq
    refine wp_region_U [9, 10] (fun w' => Nw w2 w') (by kernel_rfl) ?_
    change wpU _ _ _ _ _ _ _ _ _ (World.drew w2)
    refine U_segP (r := [0, 1, 2, 4, 5, 6]) (fuel := 10) rfl (by kernel_rfl) (by kernel_rfl) (by simp only [List.filterMap_cons, List.filterMap_nil, List.getElem?_toArray, List.getElem?_cons_succ, List.getElem?_cons_zero]; rfl) (fun _ _ d _ _ h => by cases d <;> exact h) (until_of (gb_drew (Nw.refl w2))) ?_
    iterate 6 (refine wpYield_step rfl (fun K hK => ?_)
               apply Exists.intro
               refine ⟨fun w' hw' => ?_, ?_⟩
               · (go_simp; try with_reducible rfl)
               go_simp
               refine hK _ ?_
               clear hK K)
    refine wpYield_nil ?_
    refine U_segL (r := [3, 7]) (fuel := 8) rfl (by kernel_rfl) (by kernel_rfl) (by simp only [List.filterMap_cons, List.filterMap_nil, List.getElem?_toArray, List.getElem?_cons_succ, List.getElem?_cons_zero]; rfl) (fun _ _ d _ _ h => by cases d <;> exact h) (gb_drew (Nw.refl w2)) ?_
    iterate 2 (refine wpYield_step rfl (fun K hK => ?_)
               apply Exists.intro
               refine ⟨fun w' hw' => ?_, ?_⟩
               · (go_simp; try with_reducible rfl)
               go_simp
               refine hK _ ?_
               clear hK K)
    refine wpYield_nil ?_
    refine U_segP (r := [8]) (fuel := 7) rfl (by kernel_rfl) (by kernel_rfl) (by simp only [List.filterMap_cons, List.filterMap_nil, List.getElem?_toArray, List.getElem?_cons_succ, List.getElem?_cons_zero]; rfl) (fun _ _ d _ _ h => by cases d <;> exact h) (until_of (gb_drew (Nw.refl w2))) ?_
    (refine wpYield_step rfl (fun K hK => ?_)
     apply Exists.intro
     refine ⟨fun w' hw' => ?_, ?_⟩
     · (go_simp; try with_reducible rfl)
     go_simp
     refine hK _ ?_
     clear hK K)
    refine wpYield_nil ?_
    refine U_segL (r := [9]) (fuel := 6) rfl (by kernel_rfl) (by kernel_rfl) (by simp only [List.filterMap_cons, List.filterMap_nil, List.getElem?_toArray, List.getElem?_cons_succ, List.getElem?_cons_zero]; rfl) (fun _ _ d _ _ h => by cases d <;> exact h) (gb_drew (Nw.refl w2)) ?_
    (refine wpYield_step rfl (fun K hK => ?_)
     apply Exists.intro
     refine ⟨fun w' hw' => ?_, ?_⟩
     · (go_simp; try with_reducible rfl)
     go_simp
     refine hK _ ?_
     clear hK K)
    refine wpYield_nil ?_
    clear f3 f0
    refine U_eff 10 rfl (by kernel_rfl) rfl (fun K hK => ?_)
    go_simp
    refine HOP'.out.mono ?_
    rintro e w7 ⟨rfl, h7⟩
    have H7 := Lib.hid h7
    have D0 := Lib.hid (HDN.out _ _ _ _ h7 0)
    have s1 : w7.cell? ⟨q.st, 1, none⟩ = some (.iface 28 (.pointer (some ⟨q.t, 0, none⟩))) := h7.so.cell 1
    have s1f := h7.so.frozen 1
    refine hK _ _ ⟨until_past (by kernel_rfl), ?_⟩
    clear hK K m1 h7 HOP'
    refine U_segP (r := [11, 12, 13, 14, 15]) (fuel := 0) rfl (by kernel_rfl) (by kernel_rfl) (by simp only [List.filterMap_cons, List.filterMap_nil, List.getElem?_toArray, List.getElem?_cons_succ, List.getElem?_cons_zero]; rfl) (fun _ _ d _ _ h => by cases d <;> exact h) (until_past (by kernel_rfl)) ?_
    iterate 5 (refine wpYield_step rfl (fun K hK => ?_)
               apply Exists.intro
               refine ⟨fun w' hw' => ?_, ?_⟩
               · (go_simp; try with_reducible rfl)
               go_simp
               refine hK _ ?_
               clear hK K)
    refine wpYield_nil ?_
    refine U_done (by kernel_rfl) ?_ _
    have HLK := looks_any H7.out.setD CC.out KK.out
    unfold tIf pv at HLK
    have HLK' := Lib.hid HLK
    clear HLK
    go_wp2_with (first | (go_at_call 31; (with_reducible refine HLK'.out.mono ?_); rintro e w9 ⟨rfl, h9⟩; have H9 := Lib.hid h9; clear h9) | (go_at_call 52; (with_reducible refine D0.out.mono ?_); rintro e w8 ⟨rfl, rfl⟩))
    go_ret
    exact ⟨by rw [HR.out]; rfl, by rw [HR.out]; exact H9.out⟩
  · skip
    go_upto_region 6 with (go_at_call 58; (with_reducible refine ST1.out.mono ?_); rintro e w2 ⟨rfl, h2⟩; have H2 := Lib.hid h2; have t6 := HS6.out _ _ _ _ h2; rw [G.out] at t6; clear h2)
    have f0 : ∀ w', Nw w2 w' → w'.cell? ⟨q.st, 0, none⟩ = some (.pointer (some ⟨q.b, 0, none⟩)) := fun w' k => (H2.out.so.nw k).cell 0
    have f6 : ∀ w', Nw w2 w' → w'.cell? ⟨q.st, 6, none⟩ = some (.int .i64 ((1 : Nat) : Int)) := fun w' k => by have := (H2.out.so.nw k).cell 6; rw [show (stC q (tIf q.t) (tIf q.t) p.bl Sf.again v1.lost v1.mask)[6]? = some (.int .i64 (Sf.again : Int)) from rfl, G.out] at this; exact this
    have f7 : ∀ w', Nw w2 w' → w'.cell? ⟨q.st, 7, none⟩ = some (.int .u64 (v1.mask : Int)) := fun w' k => (H2.out.so.nw k).cell 7
    have HAR := armS_any H2.out.drew (1 : Nat) v1.mask
    unfold pv at HAR
    have HAR' := Lib.hid HAR
    clear HAR t6
    refine wp_region_U [12] (fun w' => Nw w2 w') (by kernel_rfl) ?_
    change wpU _ _ _ _ _ _ _ _ _ (World.drew w2)
    refine U_segP (r := [0, 1, 2, 4, 5, 6, 8, 9, 10]) (fuel := 4) rfl (by kernel_rfl) (by kernel_rfl) (by simp only [List.filterMap_cons, List.filterMap_nil, List.getElem?_toArray, List.getElem?_cons_succ, List.getElem?_cons_zero]; rfl) (fun _ _ d _ _ h => by cases d <;> exact h) (until_of (gb_drew (Nw.refl w2))) ?_
    iterate 9 (refine wpYield_step rfl (fun K hK => ?_)
               apply Exists.intro
               refine ⟨fun w' hw' => ?_, ?_⟩
               · (go_simp; try with_reducible rfl)
               go_simp
               refine hK _ ?_
               clear hK K)
    refine wpYield_nil ?_
    refine U_segL (r := [3, 7, 11]) (fuel := 1) rfl (by kernel_rfl) (by kernel_rfl) (by simp only [List.filterMap_cons, List.filterMap_nil, List.getElem?_toArray, List.getElem?_cons_succ, List.getElem?_cons_zero]; rfl) (fun _ _ d _ _ h => by cases d <;> exact h) (gb_drew (Nw.refl w2)) ?_
    iterate 3 (refine wpYield_step rfl (fun K hK => ?_)
               apply Exists.intro
               refine ⟨fun w' hw' => ?_, ?_⟩
               · (go_simp; try with_reducible rfl)
               go_simp
               refine hK _ ?_
               clear hK K)
    refine wpYield_nil ?_
    clear f0 f6 f7
    refine U_eff 12 rfl (by kernel_rfl) rfl (fun K hK => ?_)
    go_simp
    refine HAR'.out.mono ?_
    rintro e w3 ⟨rfl, h3⟩
    have H3 := Lib.hid h3
    have u6 : w3.cell? ⟨q.st, 6, none⟩ = some (.int .i64 (Sf.again : Int)) := h3.so.cell 6
    have u6f := h3.so.frozen 6
    refine hK _ _ ⟨until_past (by kernel_rfl), ?_⟩
    clear hK K h3 HAR'
    refine U_done (by kernel_rfl) ?_ _
    obtain ⟨w4, hw4⟩ : ∃ w4, w3.setCell ⟨q.st, 6, none⟩ (.int .i64 0) = w4 := ⟨_, rfl⟩
    have O4 : Obj1 w4 q.st 70 (stC q (tIf q.t) (tIf q.t) p.bl 0 v1.lost v1.mask) := by rw [← hw4]; exact H3.out.so.set 6 (.int .i64 ((0 : Nat) : Int))
    have H4 := Lib.hid (H3.out.stg (lost := v1.lost) (mask := v1.mask) (ag := 0) (by rw [← hw4]; exact Chg.set w3 (by simp) _) O4)
    clear O4
    go_upto_region 8 with fail
    clear hw4 u6 u6f
    have HOP := openDn_any H4.out.drew (by have := NN.out; exact this) (by show 1 ≤ 1000; omega) (by rfl) (.pointer (some ⟨q.b, 0, none⟩))
    unfold pv at HOP
    have HOP' := Lib.hid HOP
    have m1 := mOpen q.t w4.drew
    have f3 : ∀ w', Nw w4 w' → w'.cell? ⟨q.st, 3, none⟩ = some (.iface 28 (.pointer (some ⟨q.t, 0, none⟩))) := fun w' k => (H4.out.so.nw k).cell 3
    have f0 : ∀ w', Nw w4 w' → w'.cell? ⟨q.st, 0, none⟩ = some (.pointer (some ⟨q.b, 0, none⟩)) := fun w' k => (H4.out.so.nw k).cell 0
    clear HOP
    refine wp_region_U [9, 10] (fun w' => Nw w4 w') (by kernel_rfl) ?_
    change wpU _ _ _ _ _ _ _ _ _ (World.drew w4)
    refine U_segP (r := [0, 1, 2, 4, 5, 6]) (fuel := 10) rfl (by kernel_rfl) (by kernel_rfl) (by simp only [List.filterMap_cons, List.filterMap_nil, List.getElem?_toArray, List.getElem?_cons_succ, List.getElem?_cons_zero]; rfl) (fun _ _ d _ _ h => by cases d <;> exact h) (until_of (gb_drew (Nw.refl w4))) ?_
    iterate 6 (refine wpYield_step rfl (fun K hK => ?_)
               apply Exists.intro
               refine ⟨fun w' hw' => ?_, ?_⟩
               · (go_simp; try with_reducible rfl)
               go_simp
               refine hK _ ?_
               clear hK K)
    refine wpYield_nil ?_
    refine U_segL (r := [3, 7]) (fuel := 8) rfl (by kernel_rfl) (by kernel_rfl) (by simp only [List.filterMap_cons, List.filterMap_nil, List.getElem?_toArray, List.getElem?_cons_succ, List.getElem?_cons_zero]; rfl) (fun _ _ d _ _ h => by cases d <;> exact h) (gb_drew (Nw.refl w4)) ?_
    iterate 2 (refine wpYield_step rfl (fun K hK => ?_)
               apply Exists.intro
               refine ⟨fun w' hw' => ?_, ?_⟩
               · (go_simp; try with_reducible rfl)
               go_simp
               refine hK _ ?_
               clear hK K)
    refine wpYield_nil ?_
    refine U_segP (r := [8]) (fuel := 7) rfl (by kernel_rfl) (by kernel_rfl) (by simp only [List.filterMap_cons, List.filterMap_nil, List.getElem?_toArray, List.getElem?_cons_succ, List.getElem?_cons_zero]; rfl) (fun _ _ d _ _ h => by cases d <;> exact h) (until_of (gb_drew (Nw.refl w4))) ?_
    (refine wpYield_step rfl (fun K hK => ?_)
     apply Exists.intro
     refine ⟨fun w' hw' => ?_, ?_⟩
     · (go_simp; try with_reducible rfl)
     go_simp
     refine hK _ ?_
     clear hK K)
    refine wpYield_nil ?_
    refine U_segL (r := [9]) (fuel := 6) rfl (by kernel_rfl) (by kernel_rfl) (by simp only [List.filterMap_cons, List.filterMap_nil, List.getElem?_toArray, List.getElem?_cons_succ, List.getElem?_cons_zero]; rfl) (fun _ _ d _ _ h => by cases d <;> exact h) (gb_drew (Nw.refl w4)) ?_
    (refine wpYield_step rfl (fun K hK => ?_)
     apply Exists.intro
     refine ⟨fun w' hw' => ?_, ?_⟩
     · (go_simp; try with_reducible rfl)
     go_simp
     refine hK _ ?_
     clear hK K)
    refine wpYield_nil ?_
    clear f3 f0
    refine U_eff 10 rfl (by kernel_rfl) rfl (fun K hK => ?_)
    go_simp
    refine HOP'.out.mono ?_
    rintro e w5 ⟨rfl, h5⟩
    have H5 := Lib.hid h5
    have D6 := Lib.hid (HDN.out _ _ _ _ h5 6)
    have s0 : w5.cell? ⟨q.st, 0, none⟩ = some (.pointer (some ⟨q.b, 0, none⟩)) := HS0.out _ _ _ _ h5
    have ST5 := Lib.hid (HST.out _ _ _ _ h5)
    refine hK _ _ ⟨until_past (by kernel_rfl), ?_⟩
    clear hK K m1 h5 HOP' ST1 H1 H2 H3 H4
    refine U_segP (r := [11, 12, 13, 14, 15]) (fuel := 0) rfl (by kernel_rfl) (by kernel_rfl) (by simp only [List.filterMap_cons, List.filterMap_nil, List.getElem?_toArray, List.getElem?_cons_succ, List.getElem?_cons_zero]; rfl) (fun _ _ d _ _ h => by cases d <;> exact h) (until_past (by kernel_rfl)) ?_
    iterate 5 (refine wpYield_step rfl (fun K hK => ?_)
               apply Exists.intro
               refine ⟨fun w' hw' => ?_, ?_⟩
               · (go_simp; try with_reducible rfl)
               go_simp
               refine hK _ ?_
               clear hK K)
    refine wpYield_nil ?_
    refine U_done (by kernel_rfl) ?_ _
    go_wp2_with (go_at_call 52; (with_reducible refine D6.out.mono ?_); rintro e w8 ⟨rfl, rfl⟩)
    rw [rounds_succ]
    go_upto_region 8 with (go_at_call 58; (with_reducible refine ST5.out.mono ?_); rintro e w6 ⟨rfl, h6⟩; have H6 := Lib.hid h6; have t6 : w6.cell? ⟨q.st, 6, none⟩ = some (.int .i64 0) := HS6.out _ _ _ _ h6; clear h6)
    have HOP := openOk_any H6.out.drew (by have := NN.out; exact this) (by show 1 - 1 ≤ 1000; omega) (by rfl) (.pointer (some ⟨q.b, 0, none⟩))
    have heq : opened p (powS ({ Sf with ar := 1, again := 0 })) = openP p Sf := by unfold opened openP selS powS; rw [G.out]; try rfl
    rw [heq] at HOP
    unfold tIf pv at HOP
    have HOP' := Lib.hid HOP
    have m1 := mOpen q.t w6.drew
    have f3 : ∀ w', Nw w6 w' → w'.cell? ⟨q.st, 3, none⟩ = some (.iface 28 (.pointer (some ⟨q.t, 0, none⟩))) := fun w' k => (H6.out.so.nw k).cell 3
    have f0 : ∀ w', Nw w6 w' → w'.cell? ⟨q.st, 0, none⟩ = some (.pointer (some ⟨q.b, 0, none⟩)) := fun w' k => (H6.out.so.nw k).cell 0
    clear HOP heq
    refine wp_region_U [9, 10] (fun w' => Nw w6 w') (by kernel_rfl) ?_
    change wpU _ _ _ _ _ _ _ _ _ (World.drew w6)
    refine U_segP (r := [0, 1, 2, 4, 5, 6]) (fuel := 10) rfl (by kernel_rfl) (by kernel_rfl) (by simp only [List.filterMap_cons, List.filterMap_nil, List.getElem?_toArray, List.getElem?_cons_succ, List.getElem?_cons_zero]; rfl) (fun _ _ d _ _ h => by cases d <;> exact h) (until_of (gb_drew (Nw.refl w6))) ?_
    iterate 6 (refine wpYield_step rfl (fun K hK => ?_)
               apply Exists.intro
               refine ⟨fun w' hw' => ?_, ?_⟩
               · (go_simp; try with_reducible rfl)
               go_simp
               refine hK _ ?_
               clear hK K)
    refine wpYield_nil ?_
    refine U_segL (r := [3, 7]) (fuel := 8) rfl (by kernel_rfl) (by kernel_rfl) (by simp only [List.filterMap_cons, List.filterMap_nil, List.getElem?_toArray, List.getElem?_cons_succ, List.getElem?_cons_zero]; rfl) (fun _ _ d _ _ h => by cases d <;> exact h) (gb_drew (Nw.refl w6)) ?_
    iterate 2 (refine wpYield_step rfl (fun K hK => ?_)
               apply Exists.intro
               refine ⟨fun w' hw' => ?_, ?_⟩
               · (go_simp; try with_reducible rfl)
               go_simp
               refine hK _ ?_
               clear hK K)
    refine wpYield_nil ?_
    refine U_segP (r := [8]) (fuel := 7) rfl (by kernel_rfl) (by kernel_rfl) (by simp only [List.filterMap_cons, List.filterMap_nil, List.getElem?_toArray, List.getElem?_cons_succ, List.getElem?_cons_zero]; rfl) (fun _ _ d _ _ h => by cases d <;> exact h) (until_of (gb_drew (Nw.refl w6))) ?_
    (refine wpYield_step rfl (fun K hK => ?_)
     apply Exists.intro
     refine ⟨fun w' hw' => ?_, ?_⟩
     · (go_simp; try with_reducible rfl)
     go_simp
     refine hK _ ?_
     clear hK K)
    refine wpYield_nil ?_
    refine U_segL (r := [9]) (fuel := 6) rfl (by kernel_rfl) (by kernel_rfl) (by simp only [List.filterMap_cons, List.filterMap_nil, List.getElem?_toArray, List.getElem?_cons_succ, List.getElem?_cons_zero]; rfl) (fun _ _ d _ _ h => by cases d <;> exact h) (gb_drew (Nw.refl w6)) ?_
    (refine wpYield_step rfl (fun K hK => ?_)
     apply Exists.intro
     refine ⟨fun w' hw' => ?_, ?_⟩
     · (go_simp; try with_reducible rfl)
     go_simp
     refine hK _ ?_
     clear hK K)
    refine wpYield_nil ?_
    clear f3 f0
    refine U_eff 10 rfl (by kernel_rfl) rfl (fun K hK => ?_)
    go_simp
    refine HOP'.out.mono ?_
    rintro e w7 ⟨rfl, h7⟩
    have H7 := Lib.hid h7
    have D0 := Lib.hid (HDN.out _ _ _ _ h7 0)
    have s1 : w7.cell? ⟨q.st, 1, none⟩ = some (.iface 28 (.pointer (some ⟨q.t, 0, none⟩))) := h7.so.cell 1
    have s1f := h7.so.frozen 1
    refine hK _ _ ⟨until_past (by kernel_rfl), ?_⟩
    clear hK K m1 h7 HOP'
    refine U_segP (r := [11, 12, 13, 14, 15]) (fuel := 0) rfl (by kernel_rfl) (by kernel_rfl) (by simp only [List.filterMap_cons, List.filterMap_nil, List.getElem?_toArray, List.getElem?_cons_succ, List.getElem?_cons_zero]; rfl) (fun _ _ d _ _ h => by cases d <;> exact h) (until_past (by kernel_rfl)) ?_
    iterate 5 (refine wpYield_step rfl (fun K hK => ?_)
               apply Exists.intro
               refine ⟨fun w' hw' => ?_, ?_⟩
               · (go_simp; try with_reducible rfl)
               go_simp
               refine hK _ ?_
               clear hK K)
    refine wpYield_nil ?_
    refine U_done (by kernel_rfl) ?_ _
    have HLK := looks_any H7.out.setD CC.out KK.out
    unfold tIf pv at HLK
    have HLK' := Lib.hid HLK
    clear HLK
    go_wp2_with (first | (go_at_call 31; (with_reducible refine HLK'.out.mono ?_); rintro e w9 ⟨rfl, h9⟩; have H9 := Lib.hid h9; clear h9) | (go_at_call 52; (with_reducible refine D0.out.mono ?_); rintro e w8 ⟨rfl, rfl⟩))
    go_ret
    exact ⟨by rw [HR.out]; rfl, by rw [HR.out]; exact H9.out⟩
  · have d2 : decide ((0 : Int) < (g : Int)) = true := decide_eq_true (by omega)
    have d3 : 0 < g := by omega
    go_upto_region 6 with (go_at_call 58; (with_reducible refine ST1.out.mono ?_); rintro e w2 ⟨rfl, h2⟩; have H2 := Lib.hid h2; have t6 := HS6.out _ _ _ _ h2; rw [G.out] at t6; clear h2)
    have f0 : ∀ w', Nw w2 w' → w'.cell? ⟨q.st, 0, none⟩ = some (.pointer (some ⟨q.b, 0, none⟩)) := fun w' k => (H2.out.so.nw k).cell 0
    have f6 : ∀ w', Nw w2 w' → w'.cell? ⟨q.st, 6, none⟩ = some (.int .i64 ((g : Nat) : Int)) := fun w' k => by have := (H2.out.so.nw k).cell 6; rw [show (stC q (tIf q.t) (tIf q.t) p.bl Sf.again v1.lost v1.mask)[6]? = some (.int .i64 (Sf.again : Int)) from rfl, G.out] at this; exact this
    have f7 : ∀ w', Nw w2 w' → w'.cell? ⟨q.st, 7, none⟩ = some (.int .u64 (v1.mask : Int)) := fun w' k => (H2.out.so.nw k).cell 7
    have HAR := armS_any H2.out.drew (g : Nat) v1.mask
    unfold pv at HAR
    have HAR' := Lib.hid HAR
    clear HAR t6
    refine wp_region_U [12] (fun w' => Nw w2 w') (by kernel_rfl) ?_
    change wpU _ _ _ _ _ _ _ _ _ (World.drew w2)
    refine U_segP (r := [0, 1, 2, 4, 5, 6, 8, 9, 10]) (fuel := 4) rfl (by kernel_rfl) (by kernel_rfl) (by simp only [List.filterMap_cons, List.filterMap_nil, List.getElem?_toArray, List.getElem?_cons_succ, List.getElem?_cons_zero]; rfl) (fun _ _ d _ _ h => by cases d <;> exact h) (until_of (gb_drew (Nw.refl w2))) ?_
    iterate 9 (refine wpYield_step rfl (fun K hK => ?_)
               apply Exists.intro
               refine ⟨fun w' hw' => ?_, ?_⟩
               · (go_simp; try with_reducible rfl)
               go_simp
               refine hK _ ?_
               clear hK K)
    refine wpYield_nil ?_
    refine U_segL (r := [3, 7, 11]) (fuel := 1) rfl (by kernel_rfl) (by kernel_rfl) (by simp only [List.filterMap_cons, List.filterMap_nil, List.getElem?_toArray, List.getElem?_cons_succ, List.getElem?_cons_zero]; rfl) (fun _ _ d _ _ h => by cases d <;> exact h) (gb_drew (Nw.refl w2)) ?_
    iterate 3 (refine wpYield_step rfl (fun K hK => ?_)
               apply Exists.intro
               refine ⟨fun w' hw' => ?_, ?_⟩
               · (go_simp; try with_reducible rfl)
               go_simp
               refine hK _ ?_
               clear hK K)
    refine wpYield_nil ?_
    clear f0 f6 f7
    refine U_eff 12 rfl (by kernel_rfl) rfl (fun K hK => ?_)
    go_simp
    refine HAR'.out.mono ?_
    rintro e w3 ⟨rfl, h3⟩
    have H3 := Lib.hid h3
    have u6 : w3.cell? ⟨q.st, 6, none⟩ = some (.int .i64 (Sf.again : Int)) := h3.so.cell 6
    have u6f := h3.so.frozen 6
    refine hK _ _ ⟨until_past (by kernel_rfl), ?_⟩
    clear hK K h3 HAR'
    refine U_done (by kernel_rfl) ?_ _
    obtain ⟨w4, hw4⟩ : ∃ w4, w3.setCell ⟨q.st, 6, none⟩ (.int .i64 0) = w4 := ⟨_, rfl⟩
    have O4 : Obj1 w4 q.st 70 (stC q (tIf q.t) (tIf q.t) p.bl 0 v1.lost v1.mask) := by rw [← hw4]; exact H3.out.so.set 6 (.int .i64 ((0 : Nat) : Int))
    have H4 := Lib.hid (H3.out.stg (lost := v1.lost) (mask := v1.mask) (ag := 0) (by rw [← hw4]; exact Chg.set w3 (by simp) _) O4)
    clear O4
    go_upto_region 8 with fail
    clear hw4 u6 u6f
    have HOP := openOk_any H4.out.drew (by have := NN.out; exact this) (by show g ≤ 1000; exact GB.out) (decide_eq_false (by show ¬ g = 1; omega)) (.pointer (some ⟨q.b, 0, none⟩))
    have heq : opened p ({ Sf with ar := g, again := 0 }) = openP p Sf := by unfold opened openP selS powS; rw [G.out]; try rfl
    rw [heq] at HOP
    unfold tIf pv at HOP
    have HOP' := Lib.hid HOP
    have m1 := mOpen q.t w4.drew
    have f3 : ∀ w', Nw w4 w' → w'.cell? ⟨q.st, 3, none⟩ = some (.iface 28 (.pointer (some ⟨q.t, 0, none⟩))) := fun w' k => (H4.out.so.nw k).cell 3
    have f0 : ∀ w', Nw w4 w' → w'.cell? ⟨q.st, 0, none⟩ = some (.pointer (some ⟨q.b, 0, none⟩)) := fun w' k => (H4.out.so.nw k).cell 0
    clear HOP heq
    refine wp_region_U [9, 10] (fun w' => Nw w4 w') (by kernel_rfl) ?_
    change wpU _ _ _ _ _ _ _ _ _ (World.drew w4)
    refine U_segP (r := [0, 1, 2, 4, 5, 6]) (fuel := 10) rfl (by kernel_rfl) (by kernel_rfl) (by simp only [List.filterMap_cons, List.filterMap_nil, List.getElem?_toArray, List.getElem?_cons_succ, List.getElem?_cons_zero]; rfl) (fun _ _ d _ _ h => by cases d <;> exact h) (until_of (gb_drew (Nw.refl w4))) ?_
    iterate 6 (refine wpYield_step rfl (fun K hK => ?_)
               apply Exists.intro
               refine ⟨fun w' hw' => ?_, ?_⟩
               · (go_simp; try with_reducible rfl)
               go_simp
               refine hK _ ?_
               clear hK K)
    refine wpYield_nil ?_
    refine U_segL (r := [3, 7]) (fuel := 8) rfl (by kernel_rfl) (by kernel_rfl) (by simp only [List.filterMap_cons, List.filterMap_nil, List.getElem?_toArray, List.getElem?_cons_succ, List.getElem?_cons_zero]; rfl) (fun _ _ d _ _ h => by cases d <;> exact h) (gb_drew (Nw.refl w4)) ?_
    iterate 2 (refine wpYield_step rfl (fun K hK => ?_)
               apply Exists.intro
               refine ⟨fun w' hw' => ?_, ?_⟩
               · (go_simp; try with_reducible rfl)
               go_simp
               refine hK _ ?_
               clear hK K)
    refine wpYield_nil ?_
    refine U_segP (r := [8]) (fuel := 7) rfl (by kernel_rfl) (by kernel_rfl) (by simp only [List.filterMap_cons, List.filterMap_nil, List.getElem?_toArray, List.getElem?_cons_succ, List.getElem?_cons_zero]; rfl) (fun _ _ d _ _ h => by cases d <;> exact h) (until_of (gb_drew (Nw.refl w4))) ?_
    (refine wpYield_step rfl (fun K hK => ?_)
     apply Exists.intro
     refine ⟨fun w' hw' => ?_, ?_⟩
     · (go_simp; try with_reducible rfl)
     go_simp
     refine hK _ ?_
     clear hK K)
    refine wpYield_nil ?_
    refine U_segL (r := [9]) (fuel := 6) rfl (by kernel_rfl) (by kernel_rfl) (by simp only [List.filterMap_cons, List.filterMap_nil, List.getElem?_toArray, List.getElem?_cons_succ, List.getElem?_cons_zero]; rfl) (fun _ _ d _ _ h => by cases d <;> exact h) (gb_drew (Nw.refl w4)) ?_
    (refine wpYield_step rfl (fun K hK => ?_)
     apply Exists.intro
     refine ⟨fun w' hw' => ?_, ?_⟩
     · (go_simp; try with_reducible rfl)
     go_simp
     refine hK _ ?_
     clear hK K)
    refine wpYield_nil ?_
    clear f3 f0
    refine U_eff 10 rfl (by kernel_rfl) rfl (fun K hK => ?_)
    go_simp
    refine HOP'.out.mono ?_
    rintro e w7 ⟨rfl, h7⟩
    have H7 := Lib.hid h7
    have D0 := Lib.hid (HDN.out _ _ _ _ h7 0)
    have s1 : w7.cell? ⟨q.st, 1, none⟩ = some (.iface 28 (.pointer (some ⟨q.t, 0, none⟩))) := h7.so.cell 1
    have s1f := h7.so.frozen 1
    refine hK _ _ ⟨until_past (by kernel_rfl), ?_⟩
    clear hK K m1 h7 HOP'
    refine U_segP (r := [11, 12, 13, 14, 15]) (fuel := 0) rfl (by kernel_rfl) (by kernel_rfl) (by simp only [List.filterMap_cons, List.filterMap_nil, List.getElem?_toArray, List.getElem?_cons_succ, List.getElem?_cons_zero]; rfl) (fun _ _ d _ _ h => by cases d <;> exact h) (until_past (by kernel_rfl)) ?_
    iterate 5 (refine wpYield_step rfl (fun K hK => ?_)
               apply Exists.intro
               refine ⟨fun w' hw' => ?_, ?_⟩
               · (go_simp; try with_reducible rfl)
               go_simp
               refine hK _ ?_
               clear hK K)
    refine wpYield_nil ?_
    refine U_done (by kernel_rfl) ?_ _
    have HLK := looks_any H7.out.setD CC.out KK.out
    unfold tIf pv at HLK
    have HLK' := Lib.hid HLK
    clear HLK
    go_wp2_with (first | (go_at_call 31; (with_reducible refine HLK'.out.mono ?_); rintro e w9 ⟨rfl, h9⟩; have H9 := Lib.hid h9; clear h9) | (go_at_call 52; (with_reducible refine D0.out.mono ?_); rintro e w8 ⟨rfl, rfl⟩))
    go_ret
    exact ⟨by rw [HR.out]; rfl, by rw [HR.out]; exact H9.out⟩
end
end Go.Proofs.Ytmcgfnfhpcddlaa

