/- What the reference's Settle does. -/
import Derived.Test.YtblkdmnfmnbbeaaV
namespace Go.Proofs.Ytblkdmnfmnbbeaa
open Go.RowKit Go.BW

def sR (s : List UInt8) (h : s.length = 64) : RB := ⟨s, none, 0, 0, [], false, h⟩
theorem fields61 : (match Try.prog.underlying 61 with | some (.struct fs) => fs.toList.map (fun f => (f.type, f.offset)) | _ => []) = [(27, 0), (22, 64), (4, 65)] := by kernel_rfl
theorem run_build_s {o : Oper} {a : Act} {w : World} (v : Operand) (hop : o.op = .build 61 #[(0, v)]) {s : List UInt8} (hs : s.length = 64) (hv : a.eval v = .agg (s.map bv).toArray) : (execOp a.eval o).run Try.prog w = .ok (.value (rv (sR s hs))) w := by
  obtain ⟨i0, hi0, hz0, _⟩ := T39.info
  have hzv : (zeroValue 61).run Try.prog w = .ok (rv rz) w := by simp [zeroValue, typeInfo, hi0, hz0]
  obtain ⟨i5, hi5, hs5⟩ : ∃ i, Try.prog.info? 27 = some i ∧ i.size = 64 := Option.map_eq_some_iff.1 i27
  unfold execOp
  simp [hop, hv, Instr.build, Sem.run_bind, hzv, run_underlying Try.underlying61]
  have hf : Instr.fill (fun x => [(0, 64), (64, 1), (65, 1)][x]?) (rv rz).cells [(0, Value.agg (List.map bv s).toArray)] = some (rc (sR s hs)).toArray := by
    have hsz : (rv rz).cells.size = 66 := by kernel_rfl
    have hvs : (Value.agg (List.map bv s).toArray).cells.size = 64 := by simp [Value.cells, hs]
    unfold Instr.fill
    simp only [List.getElem?_cons_zero]
    rw [hvs, hsz]
    simp only [ne_eq, not_true_eq_false, decide_false, Nat.zero_add, Bool.false_or, decide_eq_true_eq]
    rw [if_neg (by omega)]
    unfold Instr.fill
    congr 1
    apply Array.toList_inj.1
    have h := fill_fold (s.map bv) 0 (rv rz).cells (by simp [hs, hsz])
    have e2 : splice (rv rz).cells.toList 0 (s.map bv) = rc (sR s hs) := by
      unfold splice
      rw [List.take_zero, List.nil_append, List.length_map, hs]
      rfl
    rw [e2] at h
    rw [← Array.foldl_toList, Array.toList_zipIdx]
    exact h
  rw [hf]
  rfl
theorem RPost.same {w w' : World} {g : Nat} {M : MB} {F : List Nat} (h : RRep w g M F) (n : Nw w w') (v : Value) : RPost v g M F w (.returned v) w' :=
  ⟨rfl, F, h.nw n, Chg.of_nw n, fun _ h => .inl h⟩
theorem rsettle_bad {w : World} {g : Nat} {M : MB} {F : List Nat} (h : RRep w g M F) (n : Int) (hn : Bad M n) (s : List UInt8) (hs : s.length = 64) : Calls Try.prog 21 #[pv g, .int .i64 n, sv s] w (RPost (.bool false) g M F w) := by
  have HM := fun (w1 : World) (n1 : Nw w w1) => rmay_bad (h.nw n1) n hn s
  unfold sv at HM ⊢
  unfold pv at HM ⊢
  have HM' := Lib.hid HM; clear HM
  have HR := Lib.hid h; clear h
  have HN := Lib.hid hn; clear hn
  have HS := Lib.hid hs; clear hs
  go_enter Try.func21, Try.ntmps21
  go_wp2_with (first | (refine wpList_load_agg 27 _ rfl rfl rfl (s.map bv) (fun j u hu => by rw [Nat.zero_add, (Obj1.new w 27 (s.map bv).toArray).cell j]; simpa using hu) _ Try.underlying27 rfl (i27.trans (by rw [List.length_map, HS.out])) ?_) |
    (refine (HM'.out _ (World.grownBy_alloc w _ none)).mono ?_; rintro e w2 ⟨rfl, n2⟩; have n2' := Lib.hid (gb_trans (World.grownBy_alloc w _ none) n2); clear n2))
  go_ret
  exact RPost.same HR.out n2'.out _
set_option maxHeartbeats 4000000 in
theorem rsettle_in {w : World} {g : Nat} {M : MB} {F : List Nat} (h : RRep w g M F) (i : Nat) (b : List UInt8 × Bool) (hb : M[i]? = some b) (s : List UInt8) (hs : s.length = 64) : Calls Try.prog 21 #[pv g, .int .i64 i, sv s] w (RPost (.bool (mayOf b s)) g (M.set i (settleB b s)) F w) := by
  have hh := h
  obtain ⟨l, c, xs, x, hr, hM, hF, hx, hab, hlen⟩ := h.at hb
  have hiN := (List.getElem?_eq_some_iff.1 hx).1
  obtain ⟨N, hN⟩ : ∃ N, xs.length = N := ⟨_, rfl⟩
  have HC := Lib.hid (show ∀ w', Nw w w' → w'.cell? ⟨g, 0, none⟩ = some (.slice (some ⟨l, 0, none⟩) N c) ∧ w'.cell? ⟨l, i * 66 + 65, none⟩ = some (.bool x.op) from fun w' k => by
    refine ⟨?_, (cell_of (hr.nw k).row hx).2.1⟩
    rw [(hr.nw k).obj.cell 0, ← hN]; rfl)
  have HRR := Lib.hid hr
  have HM := Lib.hid (fun (w1 : World) (n1 : Nw w w1) => rmay_in (hh.nw n1) i b hb s hs)
  have HH := Lib.hid hh; have HMX := Lib.hid hM; have HFX := Lib.hid hF; have HX := Lib.hid hx; have HB := Lib.hid hb; have HNN := Lib.hid hN
  rw [hN] at hiN
  obtain ⟨R, hR⟩ : ∃ R, mayOf b s = R := ⟨_, rfl⟩
  obtain ⟨op, hop⟩ : ∃ op, x.op = op := ⟨_, rfl⟩
  obtain ⟨T, hT⟩ : ∃ T, settleB b s = T := ⟨_, rfl⟩
  have hT2 : T = if R && op then (s, false) else b := by
    rw [← hT, ← hR, ← hop]
    unfold settleB
    rw [← hab]
    rfl
  rw [hR] at HM ⊢
  rw [hT]
  rw [hop] at HC
  have HT := Lib.hid hT2
  have HS := Lib.hid hs
  clear h hh hr hM hF hx hab hlen hN hb hR hop hT hT2 hs
  unfold pv at HM ⊢
  unfold sv at HM ⊢
  obtain ⟨w1, hw1⟩ : ∃ w1, w1 = w.alloc (.cells (s.map bv).toArray 27) := ⟨_, rfl⟩
  have OBS := Lib.hid (show Obj1 w1 w.heap.size 27 (s.map bv).toArray from by rw [hw1]; exact Obj1.new w _ _)
  have N1 := Lib.hid (show Nw w w1 from by rw [hw1]; exact World.grownBy_alloc w _ none)
  have HW := Lib.hid hw1; clear hw1
  have done : ∀ w2, Nw w w2 → (T = b) → RPost (.bool R) g (M.set i T) F w (.returned (.bool R)) w2 := fun w2 n2 e => by
    rw [e, set_same M i b HB.out]
    exact RPost.same HH.out n2 _
  have DONE := Lib.hid done; clear done
  rcases R with _ | _
  · go_enter Try.func21, Try.ntmps21
    go_wp2_with (first | (rw [← HW.out]; refine wpList_load_agg 27 _ rfl rfl rfl (s.map bv) (load_of OBS.out) _ Try.underlying27 rfl (i27.trans (by rw [List.length_map, HS.out])) ?_) |
      (refine (HM.out w1 N1.out).mono ?_; rintro e w2 ⟨rfl, n2⟩; have N2 := Lib.hid n2; clear n2))
    go_ret
    exact DONE.out _ (gb_trans N1.out N2.out) (by rw [HT.out]; rfl)
  · rcases op with _ | _
    · go_enter Try.func21, Try.ntmps21
      go_wp2_with (first | (rw [← HW.out]; refine wpList_load_agg 27 _ rfl rfl rfl (s.map bv) (load_of OBS.out) _ Try.underlying27 rfl (i27.trans (by rw [List.length_map, HS.out])) ?_) |
        (refine (HM.out w1 N1.out).mono ?_; rintro e w2 ⟨rfl, n2⟩; have N2 := Lib.hid n2; obtain ⟨c0, c1⟩ := HC.out w2 (gb_trans N1.out n2); clear n2))
      go_ret
      exact DONE.out _ (gb_trans N1.out N2.out) (by rw [HT.out]; rfl)
    · go_enter Try.func21, Try.ntmps21
      go_wp2_with (first | (rw [← HW.out]; refine wpList_load_agg 27 _ rfl rfl rfl (s.map bv) (load_of OBS.out) _ Try.underlying27 rfl (i27.trans (by rw [List.length_map, HS.out])) ?_) |
        (refine (HM.out w1 N1.out).mono ?_; rintro e w2 ⟨rfl, n2⟩; have N2 := Lib.hid n2; obtain ⟨c0, c1⟩ := HC.out w2 (gb_trans N1.out n2); clear n2))
      clear c1
      have c0 : ∀ w', Nw w2 w' → w'.cell? ⟨g, 0, none⟩ = some (.slice (some ⟨l, 0, none⟩) N c) := fun w' k => (HC.out w' (gb_trans N1.out (gb_trans N2.out k))).1
      refine wp_region_U [8] (fun w' => Nw w2 w') (by kernel_rfl) ?_
      change wpU _ _ _ _ _ _ _ _ _ (World.drew w2)
      refine U_segL (r := [0, 1, 2, 3, 4, 5, 6, 7]) (fuel := 1) rfl (by kernel_rfl) (by kernel_rfl) (by simp only [List.filterMap_cons, List.filterMap_nil, List.getElem?_toArray, List.getElem?_cons_succ, List.getElem?_cons_zero]; rfl) (fun _ _ d _ _ h => by cases d <;> exact h) (gb_drew (Nw.refl w2)) ?_
      iterate 5 (refine wpYield_step rfl (fun K hK => ?_)
                 apply Exists.intro
                 refine ⟨fun w' hw' => ?_, ?_⟩
                 · (go_simp; try with_reducible rfl)
                 go_simp
                 refine hK _ ?_
                 clear hK K)
      refine wpYield_load_agg 27 _ rfl rfl rfl (s.map bv) (fun w' hw' => load_of (OBS.out.nw (gb_trans N2.out hw'))) _ Try.underlying27 rfl (i27.trans (by rw [List.length_map, HS.out])) ?_
      refine wpYield_val rfl (fun w' _ => run_build_s _ rfl HS.out rfl) ?_
      (refine wpYield_step rfl (fun K hK => ?_)
       apply Exists.intro
       refine ⟨fun w' hw' => ?_, ?_⟩
       · (go_simp; try with_reducible rfl)
       go_simp
       refine hK _ ?_
       clear hK K)
      refine wpYield_nil ?_
      refine U_eff 8 rfl (by kernel_rfl) rfl (fun K hK => ?_)
      obtain ⟨w3, hrun, o3, g3⟩ := run_store_own (P := Try.prog) (cs := rc (sR s HS.out)) (off := i * 66) 61 (v := rv (sR s HS.out)) rfl (i61.trans (by rw [rc_len])) (rc_one _) (w := w2.drew) (HRR.out.row.nw (gb_trans N1.out (gb_drew N2.out))) (by rw [rc_len, HNN.out]; omega)
      refine wp_ran_skip (run_exec_store 61 _ _ rfl rfl rfl hrun) ?_
      refine hK _ _ ⟨until_past (by kernel_rfl), ?_⟩
      clear hK K
      refine U_done (by kernel_rfl) ?_ _
      rw [fl_set rc_len (by rw [HNN.out]; exact hiN)] at o3
      have O3 := Lib.hid o3
      have CG := Lib.hid (show Chg w w3 [l] from (Chg.of_nw (gb_trans N1.out (gb_drew N2.out))).trans (Chg.of_gb g3 (F := [l]) (by intro y e; injection e with e; simp [e])) (fun x hx => .inl hx))
      clear o3 g3 hrun c0
      go_wp2
      go_ret
      have rr := HRR.out.put O3.out CG.out (show Own w3 0 27 64 none 0 0 [] ∧ 0 ≤ maxLen from ⟨Own.nil, Nat.zero_le _⟩)
      refine ⟨rfl, _, ⟨l, c, _, rr, ?_, rfl⟩, CG.out.wide ?_, ?_⟩
      · rw [HMX.out, HT.out, List.map_set]
        simp [abs, sR]
      · rw [HFX.out]; intro y hy; simp at hy; simp [hy]
      · intro y hy
        left
        rw [HFX.out]
        simp only [List.mem_cons, List.mem_flatMap] at hy ⊢
        rcases hy with h | h | ⟨z, hz, hy⟩
        · exact .inl h
        · exact .inr (.inl h)
        · rcases List.mem_or_eq_of_mem_set hz with hz | rfl
          · exact .inr (.inr ⟨z, hz, hy⟩)
          · simp [blkOf, sR] at hy
end Go.Proofs.Ytblkdmnfmnbbeaa

