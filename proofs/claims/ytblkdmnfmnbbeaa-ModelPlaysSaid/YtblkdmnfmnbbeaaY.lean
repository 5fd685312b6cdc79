/- What the reference's Write does. -/
import Derived.Test.YtblkdmnfmnbbeaaX
namespace Go.Proofs.Ytblkdmnfmnbbeaa
open Go.RowKit Go.BW

theorem wpOp_take {P : Program} {ops : Array Oper} {Q : Exit → Act → World → Prop} {a : Act} {w : World} {Kp : Act → World → Prop} (i : Nat) {o : Oper} (hi : ops[i]? = some o) (hw : Region.wanted o (yielded ops a.tmps) = true)
    (h : ∀ K : Act → World → Prop, (∀ a w, Kp a w → K a w) → o.wp P a w K Q) : wpOp P ops Q i Kp a w := by
  unfold wpOp
  simp only [hi, hw, if_true]
  exact .inl (h _ fun _ _ hh => hh)
theorem run_exec_lit0 {o : Oper} {a : Act} {w : World} (hop : o.op = .buildSlice 22 0 #[]) : (execOp a.eval o).run Try.prog w = .ok (.value (.slice (some ⟨w.heap.size, 0, none⟩) 0 0)) (w.alloc (.cells #[] 27)) := by
  obtain ⟨i, hi, hz, hsize, _⟩ := T22.info
  have hso : (sizeOf 27).run Try.prog w = .ok 64 w := by simp [sizeOf, typeInfo, hi, hsize]
  unfold execOp
  simp [hop, Instr.buildSlice, Sem.run_bind, run_underlying Try.underlying22, hso, Instr.fill, newRow]
  rw [show Array.range 0 = #[] from by simp]
  simp
def laterR (x : RB) (A : Option Addr) (n c : Nat) (s : List UInt8) : RB := ⟨x.la, A, n, c, x.lt ++ s, x.op, x.hl⟩
theorem laterR_rc (x : RB) (A : Option Addr) (n c : Nat) (s : List UInt8) : rc (laterR x A n c s) = (rc x).set 64 (.slice A n c) := by
  have hl : (x.la.map bv).length = 64 := by simp [x.hl]
  unfold rc laterR
  rw [List.set_append, if_neg (by omega), hl]
  rfl
theorem rwrite_bad {w : World} {g : Nat} {M : MB} {F : List Nat} (h : RRep w g M F) (n : Int) (hn : Bad M n) (s : List UInt8) : Calls Try.prog 18 #[pv g, .int .i64 n, sv s] w (Ret (.int .i64 3) w) := by
  obtain ⟨l, c, xs, h, hM, _⟩ := h
  have hi := fun (w1 : World) (n1 : Nw w w1) => is_any (h.obj.nw n1) n
  rw [show inR n xs.length = false from by unfold inR; unfold Bad at hn; rw [hM, List.length_map] at hn; simp; omega] at hi
  clear h hn hM
  unfold pv at hi ⊢
  unfold sv
  have HI := Lib.hid hi; clear hi
  go_enter Try.func18, Try.ntmps18
  go_wp2_with (refine (HI.out _ (World.grownBy_alloc w _ none)).mono ?_; rintro e w2 ⟨rfl, rfl⟩)
  go_ret
  exact ⟨rfl, World.grownBy_alloc w _ none⟩
set_option maxHeartbeats 8000000 in
theorem rwrite_in {w : World} {g : Nat} {M : MB} {F : List Nat} (h : RRep w g M F) (i : Nat) (b : List UInt8 × Bool) (hb : M[i]? = some b) (hbl : b.1.length ≤ 64064) (s : List UInt8) (hs : s.length = 64) : Calls Try.prog 18 #[pv g, .int .i64 i, sv s] w (RPost (.int .i64 0) g (M.set i (b.1 ++ s, false)) F w) := by
  obtain ⟨l, c, xs, x, hr, hM, hF, hx, hab, hlen⟩ := h.at hb
  have hiN := (List.getElem?_eq_some_iff.1 hx).1
  have hi := fun (w1 : World) (n1 : Nw w w1) => is_any (hr.obj.nw n1) (i : Int)
  rw [show inR i xs.length = true from by unfold inR; simp; omega] at hi
  obtain ⟨N, hN⟩ : ∃ N, xs.length = N := ⟨_, rfl⟩
  have HC := Lib.hid (show ∀ w', Nw w w' → w'.cell? ⟨g, 0, none⟩ = some (.slice (some ⟨l, 0, none⟩) N c) ∧ w'.cell? ⟨l, i * 66 + 64, none⟩ = some (.slice x.A x.n x.c) from fun w' k => by
    refine ⟨?_, (cell_of (hr.nw k).row hx).1⟩
    rw [(hr.nw k).obj.cell 0, ← hN]; rfl)
  have hsub := hr.sub x (List.mem_of_getElem? hx)
  have hltl : x.lt.length = x.n * 64 := by have := hsub.1.len; simpa using this
  have hxn : x.n ≤ 1000 := by
    rw [← hab] at hbl
    simp only [abs, List.length_append, x.hl] at hbl
    omega
  have HSUB := Lib.hid hsub.1
  have HRR := Lib.hid hr
  have HMX := Lib.hid hM; have HFX := Lib.hid hF; have HX := Lib.hid hx; have HNN := Lib.hid hN; have HAB := Lib.hid hab
  rw [hN] at hiN
  have HS := Lib.hid hs
  clear h hr hM hF hx hab hlen hN hs hsub hltl hb hbl
  unfold pv at hi ⊢
  unfold sv
  have HI := Lib.hid hi; clear hi
  obtain ⟨w1, hw1⟩ : ∃ w1, w1 = w.alloc (.cells (s.map bv).toArray 27) := ⟨_, rfl⟩
  have OBS := Lib.hid (show Obj1 w1 w.heap.size 27 (s.map bv).toArray from by rw [hw1]; exact Obj1.new w _ _)
  have N1 := Lib.hid (show Nw w w1 from by rw [hw1]; exact World.grownBy_alloc w _ none)
  have HW := Lib.hid hw1; clear hw1
  go_enter Try.func18, Try.ntmps18
  go_wp2_with (rw [← HW.out]; refine (HI.out w1 N1.out).mono ?_; rintro e w2 ⟨rfl, rfl⟩)
  have c0 : ∀ w', Nw w1 w' → w'.cell? ⟨g, 0, none⟩ = some (.slice (some ⟨l, 0, none⟩) N c) := fun w' k => (HC.out w' (gb_trans N1.out k)).1
  have c1 : ∀ w', Nw w1 w' → w'.cell? ⟨l, i * 66 + 64, none⟩ = some (.slice x.A x.n x.c) := fun w' k => (HC.out w' (gb_trans N1.out k)).2
  refine wp_region_U [20] (fun w' => Nw w1 w') (by kernel_rfl) ?_
  change wpU _ _ _ _ _ _ _ _ _ (World.drew w1)
  refine U_segL (r := [0, 1, 2, 3, 4, 6, 7, 8, 9, 10, 11, 12, 13, 15]) (fuel := 7) rfl (by kernel_rfl) (by kernel_rfl) (by simp only [List.filterMap_cons, List.filterMap_nil, List.getElem?_toArray, List.getElem?_cons_succ, List.getElem?_cons_zero]; rfl) (fun _ _ d _ _ h => by cases d <;> exact h) (gb_drew (Nw.refl w1)) ?_
  iterate 13 (refine wpYield_step rfl (fun K hK => ?_)
              apply Exists.intro
              refine ⟨fun w' hw' => ?_, ?_⟩
              · (go_simp; try with_reducible rfl)
              go_simp
              refine hK _ ?_
              clear hK K)
  refine wpYield_load_agg 27 _ rfl rfl rfl (s.map bv) (fun w' hw' => load_of (OBS.out.nw hw')) _ Try.underlying27 rfl (i27.trans (by rw [List.length_map, HS.out])) ?_
  refine wpYield_nil ?_
  have NB := Lib.hid (show Nw w1 w1.drew from gb_drew (Nw.refl w1))
  generalize w1.drew = wd at NB ⊢
  have lit : ∀ wa : World, Nw w1 wa → ∃ wb, wb = wa.alloc (.cells #[] 27) ∧ Own wb w1.heap.size 27 64 (some ⟨wa.heap.size, 0, none⟩) 0 0 [] ∧ Nw wa wb := fun wa n => ⟨_, rfl, Own.more (show Own _ wa.heap.size 27 64 _ 0 0 [] from World.ownsRow_made wa #[] 0 (Nat.le_refl _) (by simp) (by simp)) n.size, World.grownBy_alloc _ _ none⟩
  have one : ∀ wa : World, ∃ wb, wb = wa.alloc (.cells (Value.agg (s.map bv).toArray).cells 27) ∧ Own wb wa.heap.size 27 64 (some ⟨wa.heap.size, 0, none⟩) 1 1 (s.map bv) ∧ Nw wa wb := fun wa => ⟨_, rfl, own_lit wa (s.map bv) (by rw [List.length_map, HS.out]) rfl, World.grownBy_alloc _ _ none⟩
  have LIT := Lib.hid lit; have ONE := Lib.hid one; clear lit one c0 c1
  refine U_all (rs := [5, 16]) (by kernel_rfl) (by simp) fun j hj => ?_
  simp only [List.mem_cons, List.not_mem_nil, or_false] at hj
  rcases hj with rfl | rfl
  · refine wpOp_take 5 rfl rfl (fun K hK => ?_)
    refine wp_ran (run_exec_lit0 rfl) ?_
    obtain ⟨w5, hw, ow, nw⟩ := LIT.out wd NB.out
    rw [← hw]
    have N5 := Lib.hid (gb_trans NB.out nw); have O5 := Lib.hid ow
    clear hw ow nw
    refine hK _ _ ⟨until_of N5.out, ?_⟩
    clear hK K
    refine U_all (rs := [14, 16]) (by kernel_rfl) (by simp) fun j hj => ?_
    simp only [List.mem_cons, List.not_mem_nil, or_false] at hj
    rcases hj with rfl | rfl
    · refine wpOp_take 14 rfl rfl (fun K hK => ?_)
      obtain ⟨A6, c6, w6, hrun, o6, g6, e6⟩ := run_app_own T22 22 (d := x.c) O5.out (HSUB.out.nw (gb_trans N1.out N5.out)).rd (bv_one _) (by omega) (by unfold maxLen; omega) N5.out.size
      refine wp_ran (run_exec_append rfl hrun) ?_
      rw [Nat.zero_add] at o6 ⊢
      have n6 := nw_of_gb N5.out g6 O5.out.blk
      have N6 := Lib.hid n6; have O6 := Lib.hid (show Own w6 w1.heap.size 27 64 A6 x.n c6 (x.lt.map bv) from by simpa using o6)
      clear hrun o6 g6 e6 n6
      refine hK _ _ ⟨until_of N6.out, ?_⟩
      clear hK K
      refine U_eff 16 rfl (by kernel_rfl) rfl (fun K hK => ?_)
      refine wp_ran (run_exec_buildSlice1 T22 _ rfl (v := .agg (s.map bv).toArray) rfl (by simp [Value.cells, HS.out]) (by omega)) ?_
      obtain ⟨w7, hw, ow, nw⟩ := ONE.out w6
      rw [← hw]
      have N7 := Lib.hid (gb_trans N6.out nw); have O7 := Lib.hid (O6.out.nw nw); have R7 := Lib.hid ow
      clear hw ow nw
      refine hK _ _ ⟨until_of N7.out, ?_⟩
      clear hK K
      refine U_eff 17 rfl (by kernel_rfl) rfl (fun K hK => ?_)
      obtain ⟨A8, c8, w8, hrun, o8, g8, e8⟩ := run_app_own T22 22 (d := 1) O7.out R7.out.rd (bv_one s) (by omega) (by unfold maxLen; omega) N7.out.size
      refine wp_ran (run_exec_append rfl hrun) ?_
      have n8 := nw_of_gb N7.out g8 O7.out.blk
      rw [← List.map_append] at o8
      have N8 := Lib.hid n8; have O8 := Lib.hid (o8.more (Nat.zero_le _)); have B8 := Lib.hid o8.blk
      clear hrun o8 g8 e8
      refine hK _ _ ⟨until_of n8, ?_⟩
      clear hK K
      refine U_segP (r := [18, 19]) (fuel := 1) rfl (by kernel_rfl) (by kernel_rfl) (by simp only [List.filterMap_cons, List.filterMap_nil, List.getElem?_toArray, List.getElem?_cons_succ, List.getElem?_cons_zero]; rfl) (fun _ _ d _ _ h => by cases d <;> exact h) (until_of n8) ?_
      iterate 2 (refine wpYield_step rfl (fun K hK => ?_)
                 apply Exists.intro
                 refine ⟨fun w' hw' => ?_, ?_⟩
                 · (go_simp; try with_reducible rfl)
                 go_simp
                 refine hK _ ?_
                 clear hK K)
      refine wpYield_nil ?_
      have RR8 := Lib.hid (HRR.out.nw (gb_trans N1.out n8))
      obtain ⟨e64, _, _, f64, _⟩ := cell_of RR8.out.row HX.out
      clear n8
      refine U_eff 20 rfl (by kernel_rfl) rfl (fun K hK => ?_)
      go_simp
      obtain ⟨w9, hw9⟩ : ∃ w', w' = w8.setCell ⟨l, i * 66 + 64, none⟩ (.slice A8 (x.n + 1) c8) := ⟨_, rfl⟩
      rw [← hw9]
      refine hK _ _ ⟨until_past (by kernel_rfl), ?_⟩
      clear hK K e64 f64
      refine U_done (by kernel_rfl) ?_ _
      have C9 := Lib.hid (show Chg w8 w9 [l] from by rw [hw9]; exact Chg.set w8 (p := ⟨l, i * 66 + 64, none⟩) (List.mem_cons_self ..) _)
      have st := (Own.set RR8.out.row (i * 66 + 64) (.slice A8 (x.n + 1) c8)).1
      rw [fl_set1 rc_len (by omega) (laterR_rc x A8 (x.n + 1) c8 s) _ _ HX.out, ← hw9] at st
      have hlt8 : ∀ a, A8 = some a → a.block ≠ l ∧ a.block < w8.heap.size := by
        intro a ha
        have ho := O8.out
        rw [ha] at ho
        have h1 := B8.out a.block (by
          rcases O8.out.2 with ⟨h3, _⟩ | ⟨g', cap, cur, hv, _⟩
          · rw [ha] at h3; cases h3
          · rw [ha] at hv; injection hv with hv; injection hv with hv; subst hv; rw [ha]; rfl)
        have h2 := own_lt HRR.out.row
        have h3 := N1.out.size
        have h4 := own_lt ho
        simp only at h2
        exact ⟨by omega, h4⟩
      have o9 : Own w9 0 27 64 A8 (x.n + 1) c8 ((x.lt ++ s).map bv) := own_blk O8.out fun a ha => C9.out.block _ (hlt8 a ha).2 (by simpa using (hlt8 a ha).1)
      have RR9 := Lib.hid (RR8.out.put st C9.out (show Own w9 0 27 64 A8 (x.n + 1) c8 ((x.lt ++ s).map bv) ∧ x.n + 1 ≤ maxLen from ⟨o9, by unfold maxLen; omega⟩))
      have HX9 := Lib.hid (show (xs.set i (laterR x A8 (x.n + 1) c8 s))[i]? = some (laterR x A8 (x.n + 1) c8 s) from List.getElem?_set_self (by rw [HNN.out]; exact hiN))
      have NEW8 := Lib.hid (show ∀ a, A8 = some a → w.heap.size ≤ a.block from fun a ha => by
        have h1 := B8.out a.block (by
          rcases O8.out.2 with ⟨h3, _⟩ | ⟨g', cap, cur, hv, _⟩
          · rw [ha] at h3; cases h3
          · rw [ha] at hv; injection hv with hv; injection hv with hv; subst hv; rw [ha]; rfl)
        exact Nat.le_trans N1.out.size h1)
      obtain ⟨_, e65, _, _, f65⟩ := cell_of RR9.out.row HX9.out
      have c9 := RR9.out.obj.cell 0
      rw [List.length_set, HNN.out, show (#[Value.slice (some ⟨l, 0, none⟩) N c])[0]? = some (.slice (some ⟨l, 0, none⟩) N c) from rfl] at c9
      have C19 := Lib.hid (show Chg w w9 [l] from (Chg.of_nw (gb_trans N1.out N8.out)).trans C9.out (fun x hx => .inl hx))
      clear hw9 st o9 hlt8
      go_wp2
      go_ret
      have cg : Chg w9 (w9.setCell ⟨l, i * 66 + 65, none⟩ (.bool false)) [l] := Chg.set w9 (p := ⟨l, i * 66 + 65, none⟩) (List.mem_cons_self ..) _
      have st2 := (Own.set RR9.out.row (i * 66 + 65) (.bool false)).1
      rw [fl_set1 rc_len (by omega) (openR_rc (laterR x A8 (x.n + 1) c8 s) false) _ _ HX9.out] at st2
      have rr := RR9.out.put st2 cg (RR9.out.subK cg (laterR x A8 (x.n + 1) c8 s) (List.mem_of_getElem? HX9.out))
      rw [List.set_set] at rr
      refine ⟨rfl, _, ⟨l, c, _, rr, ?_, rfl⟩, (C19.out.trans cg (fun x hx => .inl hx)).wide ?_, ?_⟩
      · rw [HMX.out, List.map_set, ← HAB.out]
        simp [abs, openR, laterR]
      · rw [HFX.out]; intro y hy; simp at hy; simp [hy]
      · intro y hy
        rw [HFX.out]
        simp only [List.mem_cons, List.mem_flatMap] at hy ⊢
        rcases hy with h | h | ⟨z, hz, hy⟩
        · exact .inl (.inl h)
        · exact .inl (.inr (.inl h))
        · rcases List.mem_or_eq_of_mem_set hz with hz | rfl
          · exact .inl (.inr (.inr ⟨z, hz, hy⟩))
          · right
            unfold blkOf openR laterR at hy
            simp only at hy
            cases hA8 : A8 with
            | none => rw [hA8] at hy; simp at hy
            | some a => rw [hA8] at hy; simp at hy; subst hy; exact NEW8.out a hA8
    · have P5 := Lib.hid O5.out.obj
      refine wpOp_take 16 rfl rfl (fun K hK => ?_)
      refine wp_ran (run_exec_buildSlice1 T22 _ rfl (v := .agg (s.map bv).toArray) rfl (by simp [Value.cells, HS.out]) (by omega)) ?_
      obtain ⟨w6, hw, ow, nw⟩ := ONE.out w5
      rw [← hw]
      have N6 := Lib.hid (gb_trans N5.out nw); have O6 := Lib.hid (O5.out.nw nw); have R6 := Lib.hid ow
      clear hw ow nw
      refine hK _ _ ⟨until_of N6.out, ?_⟩
      clear hK K
      have R6x := Lib.hid (show ∀ r, (Value.slice (some ⟨wd.heap.size, 0, none⟩) 0 0).ownBlock = some r → (Value.slice (some ⟨w5.heap.size, 0, none⟩) 1 1).ownBlock ≠ some r from fun r h1 h2 => by
        obtain ⟨_, ho⟩ := P5.out
        have := ho.lt
        simp [Value.ownBlock] at h1 h2
        omega)
      refine U_eff 14 rfl (by kernel_rfl) rfl (fun K hK => ?_)
      obtain ⟨A6, c6, w7, hrun, o6, g6, e6⟩ := run_app_own T22 22 (d := x.c) O6.out (HSUB.out.nw (gb_trans N1.out N6.out)).rd (bv_one _) (by omega) (by unfold maxLen; omega) N6.out.size
      refine wp_ran (run_exec_append rfl hrun) ?_
      rw [Nat.zero_add] at o6 ⊢
      have n6 := nw_of_gb N6.out g6 O6.out.blk
      have N7 := Lib.hid n6; have O7 := Lib.hid (show Own w7 w1.heap.size 27 64 A6 x.n c6 (x.lt.map bv) from by simpa using o6)
      have R7 := Lib.hid (R6.out.kept g6 (fun r hr e => R6x.out r hr e)); clear hrun o6 g6 e6 n6
      refine hK _ _ ⟨until_of N7.out, ?_⟩
      clear hK K
      refine U_eff 17 rfl (by kernel_rfl) rfl (fun K hK => ?_)
      obtain ⟨A8, c8, w8, hrun, o8, g8, e8⟩ := run_app_own T22 22 (d := 1) O7.out R7.out.rd (bv_one s) (by omega) (by unfold maxLen; omega) N7.out.size
      refine wp_ran (run_exec_append rfl hrun) ?_
      have n8 := nw_of_gb N7.out g8 O7.out.blk
      rw [← List.map_append] at o8
      have N8 := Lib.hid n8; have O8 := Lib.hid (o8.more (Nat.zero_le _)); have B8 := Lib.hid o8.blk
      clear hrun o8 g8 e8
      refine hK _ _ ⟨until_of n8, ?_⟩
      clear hK K
      refine U_segP (r := [18, 19]) (fuel := 1) rfl (by kernel_rfl) (by kernel_rfl) (by simp only [List.filterMap_cons, List.filterMap_nil, List.getElem?_toArray, List.getElem?_cons_succ, List.getElem?_cons_zero]; rfl) (fun _ _ d _ _ h => by cases d <;> exact h) (until_of n8) ?_
      iterate 2 (refine wpYield_step rfl (fun K hK => ?_)
                 apply Exists.intro
                 refine ⟨fun w' hw' => ?_, ?_⟩
                 · (go_simp; try with_reducible rfl)
                 go_simp
                 refine hK _ ?_
                 clear hK K)
      refine wpYield_nil ?_
      have RR8 := Lib.hid (HRR.out.nw (gb_trans N1.out n8))
      obtain ⟨e64, _, _, f64, _⟩ := cell_of RR8.out.row HX.out
      clear n8
      refine U_eff 20 rfl (by kernel_rfl) rfl (fun K hK => ?_)
      go_simp
      obtain ⟨w9, hw9⟩ : ∃ w', w' = w8.setCell ⟨l, i * 66 + 64, none⟩ (.slice A8 (x.n + 1) c8) := ⟨_, rfl⟩
      rw [← hw9]
      refine hK _ _ ⟨until_past (by kernel_rfl), ?_⟩
      clear hK K e64 f64
      refine U_done (by kernel_rfl) ?_ _
      have C9 := Lib.hid (show Chg w8 w9 [l] from by rw [hw9]; exact Chg.set w8 (p := ⟨l, i * 66 + 64, none⟩) (List.mem_cons_self ..) _)
      have st := (Own.set RR8.out.row (i * 66 + 64) (.slice A8 (x.n + 1) c8)).1
      rw [fl_set1 rc_len (by omega) (laterR_rc x A8 (x.n + 1) c8 s) _ _ HX.out, ← hw9] at st
      have hlt8 : ∀ a, A8 = some a → a.block ≠ l ∧ a.block < w8.heap.size := by
        intro a ha
        have ho := O8.out
        rw [ha] at ho
        have h1 := B8.out a.block (by
          rcases O8.out.2 with ⟨h3, _⟩ | ⟨g', cap, cur, hv, _⟩
          · rw [ha] at h3; cases h3
          · rw [ha] at hv; injection hv with hv; injection hv with hv; subst hv; rw [ha]; rfl)
        have h2 := own_lt HRR.out.row
        have h3 := N1.out.size
        have h4 := own_lt ho
        simp only at h2
        exact ⟨by omega, h4⟩
      have o9 : Own w9 0 27 64 A8 (x.n + 1) c8 ((x.lt ++ s).map bv) := own_blk O8.out fun a ha => C9.out.block _ (hlt8 a ha).2 (by simpa using (hlt8 a ha).1)
      have RR9 := Lib.hid (RR8.out.put st C9.out (show Own w9 0 27 64 A8 (x.n + 1) c8 ((x.lt ++ s).map bv) ∧ x.n + 1 ≤ maxLen from ⟨o9, by unfold maxLen; omega⟩))
      have HX9 := Lib.hid (show (xs.set i (laterR x A8 (x.n + 1) c8 s))[i]? = some (laterR x A8 (x.n + 1) c8 s) from List.getElem?_set_self (by rw [HNN.out]; exact hiN))
      have NEW8 := Lib.hid (show ∀ a, A8 = some a → w.heap.size ≤ a.block from fun a ha => by
        have h1 := B8.out a.block (by
          rcases O8.out.2 with ⟨h3, _⟩ | ⟨g', cap, cur, hv, _⟩
          · rw [ha] at h3; cases h3
          · rw [ha] at hv; injection hv with hv; injection hv with hv; subst hv; rw [ha]; rfl)
        exact Nat.le_trans N1.out.size h1)
      obtain ⟨_, e65, _, _, f65⟩ := cell_of RR9.out.row HX9.out
      have c9 := RR9.out.obj.cell 0
      rw [List.length_set, HNN.out, show (#[Value.slice (some ⟨l, 0, none⟩) N c])[0]? = some (.slice (some ⟨l, 0, none⟩) N c) from rfl] at c9
      have C19 := Lib.hid (show Chg w w9 [l] from (Chg.of_nw (gb_trans N1.out N8.out)).trans C9.out (fun x hx => .inl hx))
      clear hw9 st o9 hlt8
      go_wp2
      go_ret
      have cg : Chg w9 (w9.setCell ⟨l, i * 66 + 65, none⟩ (.bool false)) [l] := Chg.set w9 (p := ⟨l, i * 66 + 65, none⟩) (List.mem_cons_self ..) _
      have st2 := (Own.set RR9.out.row (i * 66 + 65) (.bool false)).1
      rw [fl_set1 rc_len (by omega) (openR_rc (laterR x A8 (x.n + 1) c8 s) false) _ _ HX9.out] at st2
      have rr := RR9.out.put st2 cg (RR9.out.subK cg (laterR x A8 (x.n + 1) c8 s) (List.mem_of_getElem? HX9.out))
      rw [List.set_set] at rr
      refine ⟨rfl, _, ⟨l, c, _, rr, ?_, rfl⟩, (C19.out.trans cg (fun x hx => .inl hx)).wide ?_, ?_⟩
      · rw [HMX.out, List.map_set, ← HAB.out]
        simp [abs, openR, laterR]
      · rw [HFX.out]; intro y hy; simp at hy; simp [hy]
      · intro y hy
        rw [HFX.out]
        simp only [List.mem_cons, List.mem_flatMap] at hy ⊢
        rcases hy with h | h | ⟨z, hz, hy⟩
        · exact .inl (.inl h)
        · exact .inl (.inr (.inl h))
        · rcases List.mem_or_eq_of_mem_set hz with hz | rfl
          · exact .inl (.inr (.inr ⟨z, hz, hy⟩))
          · right
            unfold blkOf openR laterR at hy
            simp only at hy
            cases hA8 : A8 with
            | none => rw [hA8] at hy; simp at hy
            | some a => rw [hA8] at hy; simp at hy; subst hy; exact NEW8.out a hA8
  · refine wpOp_take 16 rfl rfl (fun K hK => ?_)
    refine wp_ran (run_exec_buildSlice1 T22 _ rfl (v := .agg (s.map bv).toArray) rfl (by simp [Value.cells, HS.out]) (by omega)) ?_
    obtain ⟨w4, hw, ow, nw⟩ := ONE.out wd
    rw [← hw]
    have N4 := Lib.hid (gb_trans NB.out nw); have R4 := Lib.hid ow
    clear hw ow nw
    refine hK _ _ ⟨until_of N4.out, ?_⟩
    clear hK K
    refine U_eff 5 rfl (by kernel_rfl) rfl (fun K hK => ?_)
    refine wp_ran (run_exec_lit0 rfl) ?_
    obtain ⟨w6, hw, ow, nw⟩ := LIT.out w4 N4.out
    rw [← hw]
    have N6 := Lib.hid (gb_trans N4.out nw); have O6 := Lib.hid ow
    have R6 := Lib.hid (R4.out.nw nw); clear hw ow nw
    refine hK _ _ ⟨until_of N6.out, ?_⟩
    clear hK K
    have R6x := Lib.hid (show ∀ r, (Value.slice (some ⟨w4.heap.size, 0, none⟩) 0 0).ownBlock = some r → (Value.slice (some ⟨wd.heap.size, 0, none⟩) 1 1).ownBlock ≠ some r from fun r h1 h2 => by
      obtain ⟨_, ho⟩ := R4.out.obj
      have := ho.lt
      simp [Value.ownBlock] at h1 h2
      omega)
    refine U_eff 14 rfl (by kernel_rfl) rfl (fun K hK => ?_)
    obtain ⟨A6, c6, w7, hrun, o6, g6, e6⟩ := run_app_own T22 22 (d := x.c) O6.out (HSUB.out.nw (gb_trans N1.out N6.out)).rd (bv_one _) (by omega) (by unfold maxLen; omega) N6.out.size
    refine wp_ran (run_exec_append rfl hrun) ?_
    rw [Nat.zero_add] at o6 ⊢
    have n6 := nw_of_gb N6.out g6 O6.out.blk
    have N7 := Lib.hid n6; have O7 := Lib.hid (show Own w7 w1.heap.size 27 64 A6 x.n c6 (x.lt.map bv) from by simpa using o6)
    have R7 := Lib.hid (R6.out.kept g6 (fun r hr e => R6x.out r hr e)); clear hrun o6 g6 e6 n6
    refine hK _ _ ⟨until_of N7.out, ?_⟩
    clear hK K
    refine U_eff 17 rfl (by kernel_rfl) rfl (fun K hK => ?_)
    obtain ⟨A8, c8, w8, hrun, o8, g8, e8⟩ := run_app_own T22 22 (d := 1) O7.out R7.out.rd (bv_one s) (by omega) (by unfold maxLen; omega) N7.out.size
    refine wp_ran (run_exec_append rfl hrun) ?_
    have n8 := nw_of_gb N7.out g8 O7.out.blk
    rw [← List.map_append] at o8
    have N8 := Lib.hid n8; have O8 := Lib.hid (o8.more (Nat.zero_le _)); have B8 := Lib.hid o8.blk
    clear hrun o8 g8 e8
    refine hK _ _ ⟨until_of n8, ?_⟩
    clear hK K
    refine U_segP (r := [18, 19]) (fuel := 1) rfl (by kernel_rfl) (by kernel_rfl) (by simp only [List.filterMap_cons, List.filterMap_nil, List.getElem?_toArray, List.getElem?_cons_succ, List.getElem?_cons_zero]; rfl) (fun _ _ d _ _ h => by cases d <;> exact h) (until_of n8) ?_
    iterate 2 (refine wpYield_step rfl (fun K hK => ?_)
               apply Exists.intro
               refine ⟨fun w' hw' => ?_, ?_⟩
               · (go_simp; try with_reducible rfl)
               go_simp
               refine hK _ ?_
               clear hK K)
    refine wpYield_nil ?_
    have RR8 := Lib.hid (HRR.out.nw (gb_trans N1.out n8))
    obtain ⟨e64, _, _, f64, _⟩ := cell_of RR8.out.row HX.out
    clear n8
    refine U_eff 20 rfl (by kernel_rfl) rfl (fun K hK => ?_)
    go_simp
    obtain ⟨w9, hw9⟩ : ∃ w', w' = w8.setCell ⟨l, i * 66 + 64, none⟩ (.slice A8 (x.n + 1) c8) := ⟨_, rfl⟩
    rw [← hw9]
    refine hK _ _ ⟨until_past (by kernel_rfl), ?_⟩
    clear hK K e64 f64
    refine U_done (by kernel_rfl) ?_ _
    have C9 := Lib.hid (show Chg w8 w9 [l] from by rw [hw9]; exact Chg.set w8 (p := ⟨l, i * 66 + 64, none⟩) (List.mem_cons_self ..) _)
    have st := (Own.set RR8.out.row (i * 66 + 64) (.slice A8 (x.n + 1) c8)).1
    rw [fl_set1 rc_len (by omega) (laterR_rc x A8 (x.n + 1) c8 s) _ _ HX.out, ← hw9] at st
    have hlt8 : ∀ a, A8 = some a → a.block ≠ l ∧ a.block < w8.heap.size := by
      intro a ha
      have ho := O8.out
      rw [ha] at ho
      have h1 := B8.out a.block (by
        rcases O8.out.2 with ⟨h3, _⟩ | ⟨g', cap, cur, hv, _⟩
        · rw [ha] at h3; cases h3
        · rw [ha] at hv; injection hv with hv; injection hv with hv; subst hv; rw [ha]; rfl)
      have h2 := own_lt HRR.out.row
      have h3 := N1.out.size
      have h4 := own_lt ho
      simp only at h2
      exact ⟨by omega, h4⟩
    have o9 : Own w9 0 27 64 A8 (x.n + 1) c8 ((x.lt ++ s).map bv) := own_blk O8.out fun a ha => C9.out.block _ (hlt8 a ha).2 (by simpa using (hlt8 a ha).1)
    have RR9 := Lib.hid (RR8.out.put st C9.out (show Own w9 0 27 64 A8 (x.n + 1) c8 ((x.lt ++ s).map bv) ∧ x.n + 1 ≤ maxLen from ⟨o9, by unfold maxLen; omega⟩))
    have HX9 := Lib.hid (show (xs.set i (laterR x A8 (x.n + 1) c8 s))[i]? = some (laterR x A8 (x.n + 1) c8 s) from List.getElem?_set_self (by rw [HNN.out]; exact hiN))
    have NEW8 := Lib.hid (show ∀ a, A8 = some a → w.heap.size ≤ a.block from fun a ha => by
      have h1 := B8.out a.block (by
        rcases O8.out.2 with ⟨h3, _⟩ | ⟨g', cap, cur, hv, _⟩
        · rw [ha] at h3; cases h3
        · rw [ha] at hv; injection hv with hv; injection hv with hv; subst hv; rw [ha]; rfl)
      exact Nat.le_trans N1.out.size h1)
    obtain ⟨_, e65, _, _, f65⟩ := cell_of RR9.out.row HX9.out
    have c9 := RR9.out.obj.cell 0
    rw [List.length_set, HNN.out, show (#[Value.slice (some ⟨l, 0, none⟩) N c])[0]? = some (.slice (some ⟨l, 0, none⟩) N c) from rfl] at c9
    have C19 := Lib.hid (show Chg w w9 [l] from (Chg.of_nw (gb_trans N1.out N8.out)).trans C9.out (fun x hx => .inl hx))
    clear hw9 st o9 hlt8
    go_wp2
    go_ret
    have cg : Chg w9 (w9.setCell ⟨l, i * 66 + 65, none⟩ (.bool false)) [l] := Chg.set w9 (p := ⟨l, i * 66 + 65, none⟩) (List.mem_cons_self ..) _
    have st2 := (Own.set RR9.out.row (i * 66 + 65) (.bool false)).1
    rw [fl_set1 rc_len (by omega) (openR_rc (laterR x A8 (x.n + 1) c8 s) false) _ _ HX9.out] at st2
    have rr := RR9.out.put st2 cg (RR9.out.subK cg (laterR x A8 (x.n + 1) c8 s) (List.mem_of_getElem? HX9.out))
    rw [List.set_set] at rr
    refine ⟨rfl, _, ⟨l, c, _, rr, ?_, rfl⟩, (C19.out.trans cg (fun x hx => .inl hx)).wide ?_, ?_⟩
    · rw [HMX.out, List.map_set, ← HAB.out]
      simp [abs, openR, laterR]
    · rw [HFX.out]; intro y hy; simp at hy; simp [hy]
    · intro y hy
      rw [HFX.out]
      simp only [List.mem_cons, List.mem_flatMap] at hy ⊢
      rcases hy with h | h | ⟨z, hz, hy⟩
      · exact .inl (.inl h)
      · exact .inl (.inr (.inl h))
      · rcases List.mem_or_eq_of_mem_set hz with hz | rfl
        · exact .inl (.inr (.inr ⟨z, hz, hy⟩))
        · right
          unfold blkOf openR laterR at hy
          simp only at hy
          cases hA8 : A8 with
          | none => rw [hA8] at hy; simp at hy
          | some a => rw [hA8] at hy; simp at hy; subst hy; exact NEW8.out a hA8
end Go.Proofs.Ytblkdmnfmnbbeaa

