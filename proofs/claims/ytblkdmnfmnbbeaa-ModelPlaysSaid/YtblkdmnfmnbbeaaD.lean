/- What the model's Write does. -/
import Derived.Test.YtblkdmnfmnbbeaaC
import Derived.Test.YtblkdmnfmnbbeaaReg
namespace Go.Proofs.Ytblkdmnfmnbbeaa
open Go.RowKit Go.BW

theorem run_exec_buildSlice1 {P : Program} {t e : TypeId} {z : Value} {size bytes : Nat} {o : Oper} {a : Act} {w : World} (T : El P t e z size bytes) (x : Operand) (hop : o.op = .buildSlice t 1 #[(0, x)]) {v : Value} (hx : a.eval x = v) (hv : v.cells.size = size) (hsm : size ≤ 16777216) :
    (execOp a.eval o).run P w = .ok (.value (.slice (some ⟨w.heap.size, 0, none⟩) 1 1)) (w.alloc (.cells v.cells e)) := by
  unfold execOp
  simp [hop, hx, run_buildSlice1 T v hv hsm]
theorem _root_.Go.BW.Chg.wide {w w' : World} {F G : List Nat} (h : Chg w w' F) (hs : ∀ x ∈ F, x ∈ G) : Chg w w' G := ⟨h.os, h.tape, h.output, h.size, fun k hk hn => h.block k hk (fun hm => hn (hs k hm))⟩
def sv (s : List UInt8) : Value := .agg (s.map bv).toArray
def Bad (M : List (List UInt8 × Bool)) (n : Int) : Prop := n < 0 ∨ (M.length : Int) ≤ n
theorem write_bad {w : World} {g K : Nat} {M : List (List UInt8 × Bool)} {F : List Nat} (h : Rep w g M F K) (n : Int) (hn : Bad M n) (s : List UInt8) (hs : s.length = 64) :
    Calls Try.prog 11 #[pv g, .int .i64 n, sv s] w (Ret (.int .i64 3) w) := by
  obtain ⟨l, c, ho⟩ := h.obj
  clear h
  have HO := Lib.hid ho; clear ho
  have HN := Lib.hid hn; clear hn
  have HS := Lib.hid hs; clear hs
  unfold sv
  have HT := fun (w1 : World) (n1 : Nw w w1) => the_none (HO.out.nw n1) n HN.out
  unfold pv at HT ⊢
  have HT' := Lib.hid HT; clear HT
  go_enter Try.func11, Try.ntmps11
  go_wp2_with fail
  obtain ⟨w1, hw1⟩ : ∃ w1, w1 = w.alloc (.cells (s.map bv).toArray 27) := ⟨_, rfl⟩
  rw [← hw1]
  have n1 : Nw w w1 := by rw [hw1]; exact World.grownBy_alloc w _ none
  clear hw1
  have N1 := Lib.hid n1; clear n1
  refine (HT'.out w1 N1.out).mono ?_
  rintro e w2 ⟨rfl, rfl⟩
  go_wp2
  go_ret
  exact ⟨rfl, N1.out⟩

set_option maxHeartbeats 1000000 in
theorem write_ok {w : World} {g Z : Nat} {M : List (List UInt8 × Bool)} {F : List Nat} (h : Rep w g M F Z) (hZ : Z ≤ 1000) (i : Nat) (b : List UInt8 × Bool) (hb : M[i]? = some b) (s : List UInt8) (hs : s.length = 64) :
    Calls Try.prog 11 #[pv g, .int .i64 i, sv s] w (Post (.int .i64 0) g (M.set i (b.1 ++ s, false)) F (Z + 1) w) := by
  obtain ⟨l, c, ho⟩ := h.obj
  have hi := (List.getElem?_eq_some_iff.1 hb).1
  obtain ⟨p, r, b', n, cc, A⟩ := h.at ho hi
  have hbb : b' = b := by have := A.elt; rw [hb] at this; injection this with this; exact this.symm
  subst hbb
  have HA := Lib.hid A; clear A
  have HT := fun (w1 : World) (n1 : Nw w w1) => the_some (ho.nw n1) i p hi (n1.cell HA.out.cell (by simp))
  clear hb
  have HR := Lib.hid h; clear h
  have HO := Lib.hid ho; clear ho
  have HI := Lib.hid hi; clear hi
  have HS := Lib.hid hs; clear hs
  have HZ := Lib.hid hZ; clear hZ
  unfold pv at HT ⊢
  unfold sv
  have HT' := Lib.hid HT; clear HT
  go_enter Try.func11, Try.ntmps11
  go_wp2_with fail
  obtain ⟨w1, hw1⟩ : ∃ w1, w1 = w.alloc (.cells (s.map bv).toArray 27) := ⟨_, rfl⟩
  rw [← hw1]
  have n1 : Nw w w1 := by rw [hw1]; exact World.grownBy_alloc w _ none
  have ob : Obj1 w1 w.heap.size 27 (s.map bv).toArray := by rw [hw1]; exact Obj1.new w _ _
  clear hw1
  have N1 := Lib.hid n1; clear n1
  have OB := Lib.hid ob; clear ob
  refine (HT'.out w1 N1.out).mono ?_
  rintro e w2 ⟨rfl, rfl⟩
  go_wp2_with fail
  have hcp : ∀ w', Nw w1 w' → w'.cell? ⟨p, 0, none⟩ = some (.slice (some ⟨r, 0, none⟩) n cc) := fun w' h2 => (HA.out.blk.obj.nw (gb_trans N1.out h2)).cell 0
  refine wp_region_U [7, 8] (fun w' => Nw w1 w') (by kernel_rfl) ?_
  change wpU _ _ _ _ _ _ _ _ _ (World.drew w1)
  refine U_segP (r := [0, 1, 2, 3, 4]) (fuel := 10) rfl (by kernel_rfl) (by kernel_rfl) (by simp only [List.filterMap_cons, List.filterMap_nil, List.getElem?_toArray, List.getElem?_cons_succ, List.getElem?_cons_zero]; rfl) (fun _ _ d _ _ h => by cases d <;> exact h) (until_of (gb_drew (Nw.refl w1))) ?_
  iterate 5 (refine wpYield_step rfl (fun K hK => ?_)
             apply Exists.intro
             refine ⟨fun w' hw' => ?_, ?_⟩
             · (go_simp; try with_reducible rfl)
             go_simp
             refine hK _ ?_
             clear hK K)
  refine wpYield_nil ?_
  refine U_segL (r := [5, 6]) (fuel := 8) rfl (by kernel_rfl) (by kernel_rfl) (by simp only [List.filterMap_cons, List.filterMap_nil, List.getElem?_toArray, List.getElem?_cons_succ, List.getElem?_cons_zero]; rfl) (fun _ _ d _ _ h => by cases d <;> exact h) (gb_drew (Nw.refl w1)) ?_
  (refine wpYield_step rfl (fun K hK => ?_)
   apply Exists.intro
   refine ⟨fun w' hw' => ?_, ?_⟩
   · (go_simp; try with_reducible rfl)
   go_simp
   refine hK _ ?_
   clear hK K)
  refine wpYield_load_agg 27 _ rfl rfl rfl (s.map bv) (fun w' hw' j u hu => by rw [Nat.zero_add, (OB.out.nw hw').cell j]; simpa using hu) _ Try.underlying27 rfl (i27.trans (by rw [List.length_map, HS.out])) ?_
  refine wpYield_nil ?_
  refine U_eff 7 rfl (by kernel_rfl) rfl (fun K hK => ?_)
  refine wp_ran (run_exec_buildSlice1 T22 _ rfl (v := .agg (s.map bv).toArray) rfl (by simp [Value.cells, HS.out]) (by omega)) ?_
  obtain ⟨w3, hw3⟩ : ∃ w3, w3 = w1.drew.alloc (.cells (Value.agg (s.map bv).toArray).cells 27) := ⟨_, rfl⟩
  rw [← hw3]
  have n3 : Nw w1 w3 := by rw [hw3]; exact gb_alloc (gb_drew (Nw.refl w1)) _
  have r3 := (own_lit w1.drew (s.map bv) (by rw [List.length_map, HS.out]) hw3).rd
  clear hw3
  have N3 := Lib.hid n3; clear n3
  have R3 := Lib.hid r3; clear r3
  refine hK _ _ ⟨until_of N3.out, ?_⟩
  clear hK K
  refine U_eff 8 rfl (by kernel_rfl) rfl (fun K hK => ?_)
  have hsm : n ≤ Z := HA.out.small
  have hown := HA.out.blk.row.nw (gb_trans N1.out N3.out)
  have hsz := N3.out.size
  have hsz1 := N1.out.size
  obtain ⟨A', c', w4, hrun, o4, g4, e4⟩ := run_app_own T22 22 (d := 1) hown R3.out (bv_one s) (by have := HZ.out; omega) (by unfold maxLen; have := HZ.out; omega) (Nat.zero_le _)
  refine wp_ran (run_exec_append rfl hrun) ?_
  refine hK _ _ ⟨until_past (by kernel_rfl), ?_⟩
  clear hK K
  refine U_segP (r := [9, 10]) (fuel := 4) rfl (by kernel_rfl) (by kernel_rfl) (by simp only [List.filterMap_cons, List.filterMap_nil, List.getElem?_toArray, List.getElem?_cons_succ, List.getElem?_cons_zero]; rfl) (fun _ _ d _ _ h => by cases d <;> exact h) (until_past (by kernel_rfl)) ?_
  iterate 2 (refine wpYield_step rfl (fun K hK => ?_)
             apply Exists.intro
             refine ⟨fun w' hw' => ?_, ?_⟩
             · (go_simp; try with_reducible rfl)
             go_simp
             refine hK _ ?_
             clear hK K)
  refine wpYield_nil ?_
  obtain ⟨r', rfl, _⟩ := o4.some_ (by omega)
  have e5 : r' = r ∨ r' = w3.heap.size := by
    rcases e4 with e | e
    · exact .inl (by simpa [Value.ownBlock] using e)
    · exact .inr (by simpa [Value.ownBlock] using e)
  have g5 : w3.grownBy w4 (some r) := by simpa [Value.ownBlock] using g4
  have n13 := gb_trans N1.out N3.out
  have plt := HA.out.blk.lt.1
  have ob4 : Obj1 w4 p 55 #[.slice (some ⟨r, 0, none⟩) n cc, .bool b'.2] := (HA.out.blk.obj.nw n13).eq (g5.block p (by omega) (by simp; exact HA.out.pr))
  have blk4 : BlkAt w4 p r' (b'.1 ++ s, b'.2) (n + 1) c' ∨ True := .inr trivial
  clear blk4 hrun e4 g4
  have prn : p ≠ r' := by
    rcases e5 with e | e
    · rw [e]; exact HA.out.pr
    · omega
  have c34 : Chg w w4 [p, r] := (Chg.of_nw n13).trans (Chg.of_gb g5 (F := [p, r]) (by intro x e; injection e with e; simp [e])) (fun x hx => .inl hx)
  have c0 := ob4.cell 0
  have f0 := ob4.frozen 0
  rw [show (#[Value.slice (some ⟨r, 0, none⟩) n cc, .bool b'.2])[0]? = some (.slice (some ⟨r, 0, none⟩) n cc) from rfl] at c0
  have OB4 := Lib.hid ob4; clear ob4
  have C34 := Lib.hid c34; clear c34
  have O4 := Lib.hid o4; clear o4
  refine U_eff 11 rfl (by kernel_rfl) rfl (fun K hK => ?_)
  go_simp
  obtain ⟨w5, hw5⟩ : ∃ w5, w5 = w4.setCell ⟨p, 0, none⟩ (.slice (some ⟨r', 0, none⟩) (n + 1) c') := ⟨_, rfl⟩
  rw [← hw5]
  have ob5 : Obj1 w5 p 55 #[.slice (some ⟨r', 0, none⟩) (n + 1) c', .bool b'.2] := by rw [hw5]; exact OB4.out.set 0 _
  have c1 := ob5.cell 1
  have f1 := ob5.frozen 1
  rw [show (#[Value.slice (some ⟨r', 0, none⟩) (n + 1) c', .bool b'.2])[1]? = some (.bool b'.2) from rfl] at c1
  have o5 : Own w5 0 27 64 (some ⟨r', 0, none⟩) (n + 1) c' ((b'.1 ++ s).map bv) := by rw [hw5, List.map_append]; exact O4.out.eqb (Below.heap_setCell w4 _ _ r' (fun e => prn e.symm))
  have b5 := Lib.hid (show BlkAt w5 p r' (b'.1 ++ s, b'.2) (n + 1) c' from ⟨ob5, o5, by omega⟩)
  have C5 := Lib.hid (C34.out.trans (by rw [hw5]; exact Chg.set w4 (List.mem_cons_self ..) _) (fun x hx => .inl hx) : Chg w w5 [p, r])
  clear hw5 ob5 o5
  refine hK _ _ ⟨until_past (by kernel_rfl), ?_⟩
  clear hK K
  refine U_segP (r := [12, 13]) (fuel := 1) rfl (by kernel_rfl) (by kernel_rfl) (by simp only [List.filterMap_cons, List.filterMap_nil, List.getElem?_toArray, List.getElem?_cons_succ, List.getElem?_cons_zero]; rfl) (fun _ _ d _ _ h => by cases d <;> exact h) (until_past (by kernel_rfl)) ?_
  iterate 2 (refine wpYield_step rfl (fun K hK => ?_)
             apply Exists.intro
             refine ⟨fun w' hw' => ?_, ?_⟩
             · (go_simp; try with_reducible rfl)
             go_simp
             refine hK _ ?_
             clear hK K)
  refine wpYield_nil ?_
  refine U_eff 14 rfl (by kernel_rfl) rfl (fun K hK => ?_)
  go_simp
  refine hK _ _ ⟨until_past (by kernel_rfl), ?_⟩
  clear hK K
  refine U_done (by kernel_rfl) ?_ _
  go_wp2
  go_ret
  obtain ⟨F2, h2, h3⟩ := HA.out.upd _ r' _ _ _ (Z + 1) (C5.out.trans (Chg.set w5 (p := ⟨p, 1, none⟩) (List.mem_cons_self ..) (.bool false)) (fun x hx => .inl hx)) (b5.out.openSet prn false) (by omega) (by omega) (by rcases e5 with e | e; exact .inl e; exact .inr (by omega))
  have hp := HA.out.pF
  have hr := HA.out.rF
  refine ⟨rfl, F2, h2, ?_, h3⟩
  exact (C5.out.trans (Chg.set w5 (p := ⟨p, 1, none⟩) (List.mem_cons_self ..) (.bool false)) (fun x hx => .inl hx)).wide (by intro x hx; simp at hx; rcases hx with rfl | rfl <;> assumption)
end Go.Proofs.Ytblkdmnfmnbbeaa

