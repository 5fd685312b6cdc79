/- What model.New makes: the walk. -/
import Derived.Test.YtblkdmnfmnbbeaaG
namespace Go.Proofs.Ytblkdmnfmnbbeaa
open Go.RowKit Go.BW

def numN (n : Int) : Nat := (min (max n 1) 96).toNat
theorem numN_b (n : Int) : 1 ≤ numN n ∧ numN n ≤ 96 := by unfold numN; omega
def NewPost (N : Nat) (w : World) (e : Ending) (w' : World) : Prop := ∃ g F, e = .returned (pv g) ∧ Rep w' g (List.replicate N (z64b, false)) F 1 ∧ (∀ x ∈ F, w.heap.size ≤ x) ∧ Nw w w'
theorem NewR.rep {w wr : World} {g N l c : Nat} {ps rs : List Nat} (h : NewR w g N (some ⟨l, 0, none⟩) c ps rs wr) : ∃ F, Rep wr g (List.replicate N (z64b, false)) F 1 ∧ ∀ x ∈ F, w.heap.size ≤ x := by
  obtain ⟨o1, o2, _⟩ := h.out l rfl
  have nd := h.nd
  refine ⟨g :: l :: (ps ++ rs), ⟨l, c, ps, rs, rfl, ?_, ?_, ?_, by simp [h.lp], by simp [h.lr], ?_⟩, ?_⟩
  · have h3 := (h.out l rfl).2.2
    simp only [List.nodup_cons, List.mem_cons, not_or] at nd h3 ⊢
    exact ⟨⟨fun e => h3.1 e.symm, nd.1⟩, h3.2, nd.2⟩
  · rw [List.length_replicate]; exact h.obj
  · rw [List.length_replicate]; exact h.row
  · intro i b p r hb hp hr
    have : b = (z64b, false) := by
      have := List.mem_of_getElem? hb
      exact (List.mem_replicate.1 this).2
    subst this
    obtain ⟨cc, hc⟩ := h.blk i p r hp hr
    exact ⟨1, cc, hc, Nat.le_refl _⟩
  · intro x hx
    rcases List.mem_cons.1 hx with rfl | hx
    · exact (h.new _ (List.mem_cons_self ..)).1
    rcases List.mem_cons.1 hx with rfl | hx
    · exact o1
    · exact (h.new _ (List.mem_cons_of_mem _ hx)).1
def NewRel (w : World) (g N k : Nat) (wr : World) : Prop := k ≤ N ∧ ∃ A c ps rs, NewR w g k A c ps rs wr
theorem made64 : (madeCells z64.cells (1 * 64)).toList = z64b.map bv := by kernel_rfl
theorem run_exec_mk {P : Program} {t : TypeId} {o : Oper} {a : Act} {w w' : World} (l c : Operand) (hop : o.op = .makeSlice t l c) {x y v : Value} (hl : a.eval l = x) (hc : a.eval c = y) (h : (Instr.makeSlice t x y).run P w = .ok v w') :
    (execOp a.eval o).run P w = .ok (.value v) w' := by
  unfold execOp
  simp only [hop, hl, hc, Sem.run_bind, h, Result.andThen_ok, Sem.run_pure]
theorem make_one (w : World) : ∃ w', (Instr.makeSlice 22 (.int .i64 1) (.int .i64 1)).run Try.prog w = .ok (.slice (some ⟨w.heap.size, 0, none⟩) 1 1) w' ∧ Own w' 0 27 64 (some ⟨w.heap.size, 0, none⟩) 1 1 (z64b.map bv) ∧ Nw w w' := by
  obtain ⟨i, hi, hz, hsize, hby⟩ := T22.info
  obtain ⟨w', hrun, h2, h3⟩ := run_make_full (P := Try.prog) w 0 22 27 i z64 64 T22.und hi hz hsize .i64 .i64 1 (by rw [hby]; omega) (by unfold maxLen; omega) (Nat.zero_le _)
  rw [made64] at h2
  exact ⟨w', hrun, h2, h3⟩
set_option maxHeartbeats 1000000 in
theorem new_any (n : Int) (w : World) : Calls Try.prog 10 #[.int .i64 n] w (NewPost (numN n) w) := by
  obtain ⟨N, hN⟩ : ∃ N, numN n = N := ⟨_, rfl⟩
  have hb := numN_b n
  rw [hN] at hb ⊢
  obtain ⟨hb1, hb2⟩ := hb
  rcases (show n < 1 ∨ 96 < n ∨ (1 ≤ n ∧ n ≤ 96) from by omega) with h1 | h1 | ⟨h1, h2⟩
  · have EV := Lib.hid (show (1 : Int) = (N : Int) from by unfold numN at hN; omega)
    clear hN
    go_enter Try.func10, Try.ntmps10
    go_wp2_with fail
    obtain ⟨w1, hw1⟩ : ∃ w1, w1 = w.alloc (.cells #[.slice none 0 0] 52) := ⟨_, rfl⟩
    rw [← hw1]
    have r1 : NewR w w.heap.size 0 none 0 [] [] w1 := by
      rw [hw1]
      exact ⟨Obj1.new w _ _, ⟨rfl, .inl ⟨rfl, rfl⟩⟩, rfl, rfl, by simp, (fun l e => by cases e), (fun i p r e => by simp at e), (fun x hx => by simp at hx; subst hx; simp), World.grownBy_alloc w _ none⟩
    have R1 := Lib.hid r1; clear r1
    clear hw1
    go_loopw [9] (fun i wr => ∃ k : Nat, i = .int .i64 k ∧ NewRel w w.heap.size N k wr) (fun i _ => N - (intOf i).toNat)
    case atStart => exact ⟨0, rfl, Nat.zero_le _, _, _, _, _, R1.out⟩
    case round =>
      obtain ⟨k, rfl, hk, A, c, ps, rs, hr⟩ := hrel
      have HR := Lib.hid hr; clear hr
      by_cases hlt : (k : Int) < 1
      · have hcg : ∀ w', Nw wr w' → w'.cell? ⟨w.heap.size, 0, none⟩ = some (.slice A k c) := fun w' h2 => (HR.out.obj.nw h2).cell 0
        have hkN : k < N := by have := EV.out; omega
        go_wp2_with fail
        refine wp_region_U [9] (fun w' => Nw wr w') (by kernel_rfl) ?_
        change wpU _ _ _ _ _ _ _ _ _ (World.drew wr)
        refine U_segP (r := [0, 1, 2, 3]) (fuel := 9) rfl (by kernel_rfl) (by kernel_rfl) (by simp only [List.filterMap_cons, List.filterMap_nil, List.getElem?_toArray, List.getElem?_cons_succ, List.getElem?_cons_zero]; rfl) (fun _ _ d _ _ h => by cases d <;> exact h) (until_of (gb_drew (Nw.refl wr))) ?_
        iterate 4 (refine wpYield_step rfl (fun K hK => ?_)
                   apply Exists.intro
                   refine ⟨fun w' hw' => ?_, ?_⟩
                   · (go_simp; try with_reducible rfl)
                   go_simp
                   refine hK _ ?_
                   clear hK K)
        refine wpYield_nil ?_
        refine U_segL (r := [4]) (fuel := 8) rfl (by kernel_rfl) (by kernel_rfl) (by simp only [List.filterMap_cons, List.filterMap_nil, List.getElem?_toArray, List.getElem?_cons_succ, List.getElem?_cons_zero]; rfl) (fun _ _ d _ _ h => by cases d <;> exact h) (gb_drew (Nw.refl wr)) ?_
        (refine wpYield_step rfl (fun K hK => ?_)
         apply Exists.intro
         refine ⟨fun w' hw' => ?_, ?_⟩
         · (go_simp; try with_reducible rfl)
         go_simp
         refine hK _ ?_
         clear hK K)
        refine wpYield_nil ?_
        refine U_eff 5 rfl (by kernel_rfl) rfl (fun K hK => ?_)
        obtain ⟨w2, hrun, o2, n2⟩ := make_one wr.drew
        refine wp_ran (run_exec_mk _ _ rfl rfl rfl hrun) ?_
        refine hK _ _ ⟨until_of (gb_of_drew n2), ?_⟩
        clear hK K hrun
        refine U_segP (r := [6]) (fuel := 6) rfl (by kernel_rfl) (by kernel_rfl) (by simp only [List.filterMap_cons, List.filterMap_nil, List.getElem?_toArray, List.getElem?_cons_succ, List.getElem?_cons_zero]; rfl) (fun _ _ d _ _ h => by cases d <;> exact h) (until_of (gb_of_drew n2)) ?_
        (refine wpYield_step rfl (fun K hK => ?_)
         apply Exists.intro
         refine ⟨fun w' hw' => ?_, ?_⟩
         · (go_simp; try with_reducible rfl)
         go_simp
         refine hK _ ?_
         clear hK K)
        refine wpYield_nil ?_
        refine U_eff 7 rfl (by kernel_rfl) rfl (fun K hK => ?_)
        go_simp
        obtain ⟨w3, hw3⟩ : ∃ w3, w3 = w2.alloc (.cells #[.slice (some ⟨wr.heap.size, 0, none⟩) 1 1, .bool false] 55) := ⟨_, rfl⟩
        rw [← hw3]
        have n23 : Nw w2 w3 := by rw [hw3]; exact World.grownBy_alloc w2 _ none
        have n3 : Nw wr w3 := gb_trans (gb_of_drew n2) n23
        have bl : BlkAt w3 w2.heap.size wr.heap.size (z64b, false) 1 1 := ⟨by rw [hw3]; exact Obj1.new w2 _ _, o2.nw n23, by omega⟩
        have sz2 : wr.heap.size < w2.heap.size := by obtain ⟨cur, hc⟩ := o2.obj; exact hc.lt
        clear hw3 o2
        have BL := Lib.hid bl; clear bl
        refine hK _ _ ⟨until_of n3, ?_⟩
        clear hK K
        have N3 := Lib.hid n3; clear n3 n2 n23
        refine U_eff 8 rfl (by kernel_rfl) rfl (fun K hK => ?_)
        refine wp_ran (run_exec_buildSlice1 T50 _ rfl (v := pv w2.heap.size) rfl rfl (by omega)) ?_
        obtain ⟨w4, hw4⟩ : ∃ w4, w4 = w3.alloc (.cells (pv w2.heap.size).cells 53) := ⟨_, rfl⟩
        rw [← hw4]
        have n34 : Nw w3 w4 := by rw [hw4]; exact World.grownBy_alloc w3 _ none
        have r4 : Own w4 w3.heap.size 53 1 (some ⟨w3.heap.size, 0, none⟩) 1 1 [pv w2.heap.size] := by rw [hw4]; exact World.ownsRow_lit (e := 53) (size := 1) w3 #[pv w2.heap.size] 1 (Nat.le_refl _) (by unfold maxLen; omega) rfl
        clear hw4
        refine hK _ _ ⟨until_of (gb_trans N3.out n34), ?_⟩
        clear hK K
        have N4 := Lib.hid (gb_trans N3.out n34); have R4 := Lib.hid r4; clear r4
        have B4 := Lib.hid (BL.out.nw n34); clear n34 BL
        refine U_eff 9 rfl (by kernel_rfl) rfl (fun K hK => ?_)
        obtain ⟨A', c', w5, hrun, o5, g5, e5⟩ := run_app_own T50 50 (d := 1) (HR.out.row.nw N4.out) R4.out.rd (by intro u hu; simp at hu; subst hu; rfl) (by omega) (by unfold maxLen; omega) (Nat.zero_le _)
        refine wp_ran (run_exec_append rfl hrun) ?_
        refine hK _ _ ⟨until_past (by kernel_rfl), ?_⟩
        clear hK K hrun
        obtain ⟨l', rfl, _⟩ := o5.some_ (by omega)
        have st := NewR.step HR.out N4.out (Nat.le_refl _) (by omega) (by omega) B4.out g5 o5 e5
        have ob5 : Obj1 w5 w.heap.size 52 #[.slice A k c] := (HR.out.obj.nw N4.out).eq (g5.block _ (by have := HR.out.obj.lt; have := N4.out.size; omega) (by
          intro e
          rcases HR.out.row.2 with ⟨h2, _⟩ | ⟨g', cap, cur, hv, _⟩
          · injection h2 with h2; subst h2; simp [Value.ownBlock] at e
          · injection hv with hv; subst hv; simp [Value.ownBlock] at e; exact (HR.out.out _ rfl).2.2 (e ▸ List.mem_cons_self ..)))
        have c5 := ob5.cell 0
        have f5 := ob5.frozen 0
        rw [show (#[Value.slice A k c])[0]? = some (.slice A k c) from rfl] at c5
        have ST := Lib.hid st; clear st o5 g5 e5 ob5 N4 N3 B4 R4 HR hcg
        refine U_segP (r := [10, 11]) (fuel := 1) rfl (by kernel_rfl) (by kernel_rfl) (by simp only [List.filterMap_cons, List.filterMap_nil, List.getElem?_toArray, List.getElem?_cons_succ, List.getElem?_cons_zero]; rfl) (fun _ _ d _ _ h => by cases d <;> exact h) (until_past (by kernel_rfl)) ?_
        iterate 2 (refine wpYield_step rfl (fun K hK => ?_)
                   apply Exists.intro
                   refine ⟨fun w' hw' => ?_, ?_⟩
                   · (go_simp; try with_reducible rfl)
                   go_simp
                   refine hK _ ?_
                   clear hK K)
        refine wpYield_nil ?_
        refine U_eff 12 rfl (by kernel_rfl) rfl (fun K hK => ?_)
        go_simp
        refine hK _ _ ⟨until_past (by kernel_rfl), ?_⟩
        clear hK K
        refine U_done (by kernel_rfl) ?_ _
        go_wp2
        exact ⟨⟨k + 1, rfl, hkN, _, _, _, _, ST.out⟩, by simp [intOf]; omega⟩
      · have hk' : k = N := by have := EV.out; omega
        go_wp2
        go_ret
        subst hk'
        rcases A with _ | a
        · rcases HR.out.row.2 with ⟨h2, h3⟩ | ⟨g', cap, cur, hv, _⟩
          · omega
          · injection hv with hv; cases hv
        · obtain ⟨l, he, _⟩ := HR.out.row.some_ (by omega)
          rw [he] at HR
          obtain ⟨F, h5, h6⟩ := NewR.rep HR.out
          exact ⟨_, F, rfl, h5, h6, HR.out.nw⟩
  · have EV := Lib.hid (show (96 : Int) = (N : Int) from by unfold numN at hN; omega)
    clear hN
    go_enter Try.func10, Try.ntmps10
    go_wp2_with fail
    obtain ⟨w1, hw1⟩ : ∃ w1, w1 = w.alloc (.cells #[.slice none 0 0] 52) := ⟨_, rfl⟩
    rw [← hw1]
    have r1 : NewR w w.heap.size 0 none 0 [] [] w1 := by
      rw [hw1]
      exact ⟨Obj1.new w _ _, ⟨rfl, .inl ⟨rfl, rfl⟩⟩, rfl, rfl, by simp, (fun l e => by cases e), (fun i p r e => by simp at e), (fun x hx => by simp at hx; subst hx; simp), World.grownBy_alloc w _ none⟩
    have R1 := Lib.hid r1; clear r1
    clear hw1
    go_loopw [9] (fun i wr => ∃ k : Nat, i = .int .i64 k ∧ NewRel w w.heap.size N k wr) (fun i _ => N - (intOf i).toNat)
    case atStart => exact ⟨0, rfl, Nat.zero_le _, _, _, _, _, R1.out⟩
    case round =>
      obtain ⟨k, rfl, hk, A, c, ps, rs, hr⟩ := hrel
      have HR := Lib.hid hr; clear hr
      by_cases hlt : (k : Int) < 96
      · have hcg : ∀ w', Nw wr w' → w'.cell? ⟨w.heap.size, 0, none⟩ = some (.slice A k c) := fun w' h2 => (HR.out.obj.nw h2).cell 0
        have hkN : k < N := by have := EV.out; omega
        go_wp2_with fail
        refine wp_region_U [9] (fun w' => Nw wr w') (by kernel_rfl) ?_
        change wpU _ _ _ _ _ _ _ _ _ (World.drew wr)
        refine U_segP (r := [0, 1, 2, 3]) (fuel := 9) rfl (by kernel_rfl) (by kernel_rfl) (by simp only [List.filterMap_cons, List.filterMap_nil, List.getElem?_toArray, List.getElem?_cons_succ, List.getElem?_cons_zero]; rfl) (fun _ _ d _ _ h => by cases d <;> exact h) (until_of (gb_drew (Nw.refl wr))) ?_
        iterate 4 (refine wpYield_step rfl (fun K hK => ?_)
                   apply Exists.intro
                   refine ⟨fun w' hw' => ?_, ?_⟩
                   · (go_simp; try with_reducible rfl)
                   go_simp
                   refine hK _ ?_
                   clear hK K)
        refine wpYield_nil ?_
        refine U_segL (r := [4]) (fuel := 8) rfl (by kernel_rfl) (by kernel_rfl) (by simp only [List.filterMap_cons, List.filterMap_nil, List.getElem?_toArray, List.getElem?_cons_succ, List.getElem?_cons_zero]; rfl) (fun _ _ d _ _ h => by cases d <;> exact h) (gb_drew (Nw.refl wr)) ?_
        (refine wpYield_step rfl (fun K hK => ?_)
         apply Exists.intro
         refine ⟨fun w' hw' => ?_, ?_⟩
         · (go_simp; try with_reducible rfl)
         go_simp
         refine hK _ ?_
         clear hK K)
        refine wpYield_nil ?_
        refine U_eff 5 rfl (by kernel_rfl) rfl (fun K hK => ?_)
        obtain ⟨w2, hrun, o2, n2⟩ := make_one wr.drew
        refine wp_ran (run_exec_mk _ _ rfl rfl rfl hrun) ?_
        refine hK _ _ ⟨until_of (gb_of_drew n2), ?_⟩
        clear hK K hrun
        refine U_segP (r := [6]) (fuel := 6) rfl (by kernel_rfl) (by kernel_rfl) (by simp only [List.filterMap_cons, List.filterMap_nil, List.getElem?_toArray, List.getElem?_cons_succ, List.getElem?_cons_zero]; rfl) (fun _ _ d _ _ h => by cases d <;> exact h) (until_of (gb_of_drew n2)) ?_
        (refine wpYield_step rfl (fun K hK => ?_)
         apply Exists.intro
         refine ⟨fun w' hw' => ?_, ?_⟩
         · (go_simp; try with_reducible rfl)
         go_simp
         refine hK _ ?_
         clear hK K)
        refine wpYield_nil ?_
        refine U_eff 7 rfl (by kernel_rfl) rfl (fun K hK => ?_)
        go_simp
        obtain ⟨w3, hw3⟩ : ∃ w3, w3 = w2.alloc (.cells #[.slice (some ⟨wr.heap.size, 0, none⟩) 1 1, .bool false] 55) := ⟨_, rfl⟩
        rw [← hw3]
        have n23 : Nw w2 w3 := by rw [hw3]; exact World.grownBy_alloc w2 _ none
        have n3 : Nw wr w3 := gb_trans (gb_of_drew n2) n23
        have bl : BlkAt w3 w2.heap.size wr.heap.size (z64b, false) 1 1 := ⟨by rw [hw3]; exact Obj1.new w2 _ _, o2.nw n23, by omega⟩
        have sz2 : wr.heap.size < w2.heap.size := by obtain ⟨cur, hc⟩ := o2.obj; exact hc.lt
        clear hw3 o2
        have BL := Lib.hid bl; clear bl
        refine hK _ _ ⟨until_of n3, ?_⟩
        clear hK K
        have N3 := Lib.hid n3; clear n3 n2 n23
        refine U_eff 8 rfl (by kernel_rfl) rfl (fun K hK => ?_)
        refine wp_ran (run_exec_buildSlice1 T50 _ rfl (v := pv w2.heap.size) rfl rfl (by omega)) ?_
        obtain ⟨w4, hw4⟩ : ∃ w4, w4 = w3.alloc (.cells (pv w2.heap.size).cells 53) := ⟨_, rfl⟩
        rw [← hw4]
        have n34 : Nw w3 w4 := by rw [hw4]; exact World.grownBy_alloc w3 _ none
        have r4 : Own w4 w3.heap.size 53 1 (some ⟨w3.heap.size, 0, none⟩) 1 1 [pv w2.heap.size] := by rw [hw4]; exact World.ownsRow_lit (e := 53) (size := 1) w3 #[pv w2.heap.size] 1 (Nat.le_refl _) (by unfold maxLen; omega) rfl
        clear hw4
        refine hK _ _ ⟨until_of (gb_trans N3.out n34), ?_⟩
        clear hK K
        have N4 := Lib.hid (gb_trans N3.out n34); have R4 := Lib.hid r4; clear r4
        have B4 := Lib.hid (BL.out.nw n34); clear n34 BL
        refine U_eff 9 rfl (by kernel_rfl) rfl (fun K hK => ?_)
        obtain ⟨A', c', w5, hrun, o5, g5, e5⟩ := run_app_own T50 50 (d := 1) (HR.out.row.nw N4.out) R4.out.rd (by intro u hu; simp at hu; subst hu; rfl) (by omega) (by unfold maxLen; omega) (Nat.zero_le _)
        refine wp_ran (run_exec_append rfl hrun) ?_
        refine hK _ _ ⟨until_past (by kernel_rfl), ?_⟩
        clear hK K hrun
        obtain ⟨l', rfl, _⟩ := o5.some_ (by omega)
        have st := NewR.step HR.out N4.out (Nat.le_refl _) (by omega) (by omega) B4.out g5 o5 e5
        have ob5 : Obj1 w5 w.heap.size 52 #[.slice A k c] := (HR.out.obj.nw N4.out).eq (g5.block _ (by have := HR.out.obj.lt; have := N4.out.size; omega) (by
          intro e
          rcases HR.out.row.2 with ⟨h2, _⟩ | ⟨g', cap, cur, hv, _⟩
          · injection h2 with h2; subst h2; simp [Value.ownBlock] at e
          · injection hv with hv; subst hv; simp [Value.ownBlock] at e; exact (HR.out.out _ rfl).2.2 (e ▸ List.mem_cons_self ..)))
        have c5 := ob5.cell 0
        have f5 := ob5.frozen 0
        rw [show (#[Value.slice A k c])[0]? = some (.slice A k c) from rfl] at c5
        have ST := Lib.hid st; clear st o5 g5 e5 ob5 N4 N3 B4 R4 HR hcg
        refine U_segP (r := [10, 11]) (fuel := 1) rfl (by kernel_rfl) (by kernel_rfl) (by simp only [List.filterMap_cons, List.filterMap_nil, List.getElem?_toArray, List.getElem?_cons_succ, List.getElem?_cons_zero]; rfl) (fun _ _ d _ _ h => by cases d <;> exact h) (until_past (by kernel_rfl)) ?_
        iterate 2 (refine wpYield_step rfl (fun K hK => ?_)
                   apply Exists.intro
                   refine ⟨fun w' hw' => ?_, ?_⟩
                   · (go_simp; try with_reducible rfl)
                   go_simp
                   refine hK _ ?_
                   clear hK K)
        refine wpYield_nil ?_
        refine U_eff 12 rfl (by kernel_rfl) rfl (fun K hK => ?_)
        go_simp
        refine hK _ _ ⟨until_past (by kernel_rfl), ?_⟩
        clear hK K
        refine U_done (by kernel_rfl) ?_ _
        go_wp2
        exact ⟨⟨k + 1, rfl, hkN, _, _, _, _, ST.out⟩, by simp [intOf]; omega⟩
      · have hk' : k = N := by have := EV.out; omega
        go_wp2
        go_ret
        subst hk'
        rcases A with _ | a
        · rcases HR.out.row.2 with ⟨h2, h3⟩ | ⟨g', cap, cur, hv, _⟩
          · omega
          · injection hv with hv; cases hv
        · obtain ⟨l, he, _⟩ := HR.out.row.some_ (by omega)
          rw [he] at HR
          obtain ⟨F, h5, h6⟩ := NewR.rep HR.out
          exact ⟨_, F, rfl, h5, h6, HR.out.nw⟩
  · have EV := Lib.hid (show (n : Int) = (N : Int) from by unfold numN at hN; omega)
    clear hN
    go_enter Try.func10, Try.ntmps10
    go_wp2_with fail
    obtain ⟨w1, hw1⟩ : ∃ w1, w1 = w.alloc (.cells #[.slice none 0 0] 52) := ⟨_, rfl⟩
    rw [← hw1]
    have r1 : NewR w w.heap.size 0 none 0 [] [] w1 := by
      rw [hw1]
      exact ⟨Obj1.new w _ _, ⟨rfl, .inl ⟨rfl, rfl⟩⟩, rfl, rfl, by simp, (fun l e => by cases e), (fun i p r e => by simp at e), (fun x hx => by simp at hx; subst hx; simp), World.grownBy_alloc w _ none⟩
    have R1 := Lib.hid r1; clear r1
    clear hw1
    go_loopw [9] (fun i wr => ∃ k : Nat, i = .int .i64 k ∧ NewRel w w.heap.size N k wr) (fun i _ => N - (intOf i).toNat)
    case atStart => exact ⟨0, rfl, Nat.zero_le _, _, _, _, _, R1.out⟩
    case round =>
      obtain ⟨k, rfl, hk, A, c, ps, rs, hr⟩ := hrel
      have HR := Lib.hid hr; clear hr
      by_cases hlt : (k : Int) < n
      · have hcg : ∀ w', Nw wr w' → w'.cell? ⟨w.heap.size, 0, none⟩ = some (.slice A k c) := fun w' h2 => (HR.out.obj.nw h2).cell 0
        have hkN : k < N := by have := EV.out; omega
        go_wp2_with fail
        refine wp_region_U [9] (fun w' => Nw wr w') (by kernel_rfl) ?_
        change wpU _ _ _ _ _ _ _ _ _ (World.drew wr)
        refine U_segP (r := [0, 1, 2, 3]) (fuel := 9) rfl (by kernel_rfl) (by kernel_rfl) (by simp only [List.filterMap_cons, List.filterMap_nil, List.getElem?_toArray, List.getElem?_cons_succ, List.getElem?_cons_zero]; rfl) (fun _ _ d _ _ h => by cases d <;> exact h) (until_of (gb_drew (Nw.refl wr))) ?_
        iterate 4 (refine wpYield_step rfl (fun K hK => ?_)
                   apply Exists.intro
                   refine ⟨fun w' hw' => ?_, ?_⟩
                   · (go_simp; try with_reducible rfl)
                   go_simp
                   refine hK _ ?_
                   clear hK K)
        refine wpYield_nil ?_
        refine U_segL (r := [4]) (fuel := 8) rfl (by kernel_rfl) (by kernel_rfl) (by simp only [List.filterMap_cons, List.filterMap_nil, List.getElem?_toArray, List.getElem?_cons_succ, List.getElem?_cons_zero]; rfl) (fun _ _ d _ _ h => by cases d <;> exact h) (gb_drew (Nw.refl wr)) ?_
        (refine wpYield_step rfl (fun K hK => ?_)
         apply Exists.intro
         refine ⟨fun w' hw' => ?_, ?_⟩
         · (go_simp; try with_reducible rfl)
         go_simp
         refine hK _ ?_
         clear hK K)
        refine wpYield_nil ?_
        refine U_eff 5 rfl (by kernel_rfl) rfl (fun K hK => ?_)
        obtain ⟨w2, hrun, o2, n2⟩ := make_one wr.drew
        refine wp_ran (run_exec_mk _ _ rfl rfl rfl hrun) ?_
        refine hK _ _ ⟨until_of (gb_of_drew n2), ?_⟩
        clear hK K hrun
        refine U_segP (r := [6]) (fuel := 6) rfl (by kernel_rfl) (by kernel_rfl) (by simp only [List.filterMap_cons, List.filterMap_nil, List.getElem?_toArray, List.getElem?_cons_succ, List.getElem?_cons_zero]; rfl) (fun _ _ d _ _ h => by cases d <;> exact h) (until_of (gb_of_drew n2)) ?_
        (refine wpYield_step rfl (fun K hK => ?_)
         apply Exists.intro
         refine ⟨fun w' hw' => ?_, ?_⟩
         · (go_simp; try with_reducible rfl)
         go_simp
         refine hK _ ?_
         clear hK K)
        refine wpYield_nil ?_
        refine U_eff 7 rfl (by kernel_rfl) rfl (fun K hK => ?_)
        go_simp
        obtain ⟨w3, hw3⟩ : ∃ w3, w3 = w2.alloc (.cells #[.slice (some ⟨wr.heap.size, 0, none⟩) 1 1, .bool false] 55) := ⟨_, rfl⟩
        rw [← hw3]
        have n23 : Nw w2 w3 := by rw [hw3]; exact World.grownBy_alloc w2 _ none
        have n3 : Nw wr w3 := gb_trans (gb_of_drew n2) n23
        have bl : BlkAt w3 w2.heap.size wr.heap.size (z64b, false) 1 1 := ⟨by rw [hw3]; exact Obj1.new w2 _ _, o2.nw n23, by omega⟩
        have sz2 : wr.heap.size < w2.heap.size := by obtain ⟨cur, hc⟩ := o2.obj; exact hc.lt
        clear hw3 o2
        have BL := Lib.hid bl; clear bl
        refine hK _ _ ⟨until_of n3, ?_⟩
        clear hK K
        have N3 := Lib.hid n3; clear n3 n2 n23
        refine U_eff 8 rfl (by kernel_rfl) rfl (fun K hK => ?_)
        refine wp_ran (run_exec_buildSlice1 T50 _ rfl (v := pv w2.heap.size) rfl rfl (by omega)) ?_
        obtain ⟨w4, hw4⟩ : ∃ w4, w4 = w3.alloc (.cells (pv w2.heap.size).cells 53) := ⟨_, rfl⟩
        rw [← hw4]
        have n34 : Nw w3 w4 := by rw [hw4]; exact World.grownBy_alloc w3 _ none
        have r4 : Own w4 w3.heap.size 53 1 (some ⟨w3.heap.size, 0, none⟩) 1 1 [pv w2.heap.size] := by rw [hw4]; exact World.ownsRow_lit (e := 53) (size := 1) w3 #[pv w2.heap.size] 1 (Nat.le_refl _) (by unfold maxLen; omega) rfl
        clear hw4
        refine hK _ _ ⟨until_of (gb_trans N3.out n34), ?_⟩
        clear hK K
        have N4 := Lib.hid (gb_trans N3.out n34); have R4 := Lib.hid r4; clear r4
        have B4 := Lib.hid (BL.out.nw n34); clear n34 BL
        refine U_eff 9 rfl (by kernel_rfl) rfl (fun K hK => ?_)
        obtain ⟨A', c', w5, hrun, o5, g5, e5⟩ := run_app_own T50 50 (d := 1) (HR.out.row.nw N4.out) R4.out.rd (by intro u hu; simp at hu; subst hu; rfl) (by omega) (by unfold maxLen; omega) (Nat.zero_le _)
        refine wp_ran (run_exec_append rfl hrun) ?_
        refine hK _ _ ⟨until_past (by kernel_rfl), ?_⟩
        clear hK K hrun
        obtain ⟨l', rfl, _⟩ := o5.some_ (by omega)
        have st := NewR.step HR.out N4.out (Nat.le_refl _) (by omega) (by omega) B4.out g5 o5 e5
        have ob5 : Obj1 w5 w.heap.size 52 #[.slice A k c] := (HR.out.obj.nw N4.out).eq (g5.block _ (by have := HR.out.obj.lt; have := N4.out.size; omega) (by
          intro e
          rcases HR.out.row.2 with ⟨h2, _⟩ | ⟨g', cap, cur, hv, _⟩
          · injection h2 with h2; subst h2; simp [Value.ownBlock] at e
          · injection hv with hv; subst hv; simp [Value.ownBlock] at e; exact (HR.out.out _ rfl).2.2 (e ▸ List.mem_cons_self ..)))
        have c5 := ob5.cell 0
        have f5 := ob5.frozen 0
        rw [show (#[Value.slice A k c])[0]? = some (.slice A k c) from rfl] at c5
        have ST := Lib.hid st; clear st o5 g5 e5 ob5 N4 N3 B4 R4 HR hcg
        refine U_segP (r := [10, 11]) (fuel := 1) rfl (by kernel_rfl) (by kernel_rfl) (by simp only [List.filterMap_cons, List.filterMap_nil, List.getElem?_toArray, List.getElem?_cons_succ, List.getElem?_cons_zero]; rfl) (fun _ _ d _ _ h => by cases d <;> exact h) (until_past (by kernel_rfl)) ?_
        iterate 2 (refine wpYield_step rfl (fun K hK => ?_)
                   apply Exists.intro
                   refine ⟨fun w' hw' => ?_, ?_⟩
                   · (go_simp; try with_reducible rfl)
                   go_simp
                   refine hK _ ?_
                   clear hK K)
        refine wpYield_nil ?_
        refine U_eff 12 rfl (by kernel_rfl) rfl (fun K hK => ?_)
        go_simp
        refine hK _ _ ⟨until_past (by kernel_rfl), ?_⟩
        clear hK K
        refine U_done (by kernel_rfl) ?_ _
        go_wp2
        exact ⟨⟨k + 1, rfl, hkN, _, _, _, _, ST.out⟩, by simp [intOf]; omega⟩
      · have hk' : k = N := by have := EV.out; omega
        go_wp2
        go_ret
        subst hk'
        rcases A with _ | a
        · rcases HR.out.row.2 with ⟨h2, h3⟩ | ⟨g', cap, cur, hv, _⟩
          · omega
          · injection hv with hv; cases hv
        · obtain ⟨l, he, _⟩ := HR.out.row.some_ (by omega)
          rw [he] at HR
          obtain ⟨F, h5, h6⟩ := NewR.rep HR.out
          exact ⟨_, F, rfl, h5, h6, HR.out.nw⟩
end Go.Proofs.Ytblkdmnfmnbbeaa

