/- What the reference's Flush does. -/
import Derived.Test.YtblkdmnfmnbbeaaY
namespace Go.Proofs.Ytblkdmnfmnbbeaa
open Go.RowKit Go.BW

theorem lastR_64 (x : RB) : (lastR x).length = 64 := by
  unfold lastR
  refine lastB_64 ?_
  rw [List.length_append, x.hl]
  omega
def flushR (x : RB) : RB := if x.op then x else ⟨lastR x, none, 0, 0, [], false, lastR_64 x⟩
theorem abs_flush (x : RB) : abs (flushR x) = flushB (abs x) := by
  unfold flushR abs flushB
  cases h : x.op
  · simp [lastR]
  · simp [h]
def lasR (x : RB) (s : List UInt8) (h : s.length = 64) : RB := ⟨s, x.A, x.n, x.c, x.lt, x.op, h⟩
theorem lasR_rc (x : RB) (s : List UInt8) (h : s.length = 64) : rc (lasR x s h) = splice (rc x) 0 (s.map bv) := by
  have hl : (x.la.map bv).length = 64 := by simp [x.hl]
  unfold splice rc lasR
  rw [List.take_zero, List.nil_append, Nat.zero_add, List.length_map, h, List.drop_append, hl, Nat.sub_self, List.drop_zero, List.drop_of_length_le (by omega), List.nil_append]
def nilR (x : RB) : RB := ⟨x.la, none, 0, 0, [], x.op, x.hl⟩
theorem nilR_rc (x : RB) : rc (nilR x) = (rc x).set 64 (.slice none 0 0) := by
  have hl : (x.la.map bv).length = 64 := by simp [x.hl]
  unfold rc nilR
  rw [List.set_append, if_neg (by omega), hl]
  rfl
def FlushRel (w : World) (g l c : Nat) (xs : List RB) (k : Nat) (wr : World) : Prop := RR wr g (mapTo flushR xs k) l c ∧ Chg w wr [l]
set_option maxHeartbeats 4000000 in
theorem rflush_any {w : World} {g : Nat} {M : MB} {F : List Nat} (h : RRep w g M F) (hm : M.length ≤ 96) : Calls Try.prog 19 #[pv g] w (RPost (.tuple #[]) g (M.map flushB) F w) := by
  obtain ⟨l, c, xs, hr, hM, hF⟩ := h
  have hN : M.length = xs.length := by rw [hM, List.length_map]
  rw [hN] at hm
  obtain ⟨N, hNN⟩ : ∃ N, xs.length = N := ⟨_, rfl⟩
  rw [hNN] at hm
  have HR := Lib.hid hr; have HM := Lib.hid hM; have HF := Lib.hid hF; have HN := Lib.hid hNN
  clear hr hM hF hN hNN
  unfold pv
  go_enter Try.func19, Try.ntmps19
  go_wp2_with fail
  go_loopw [2] (fun i wr => ∃ k : Nat, k ≤ N ∧ i = .int .i64 k ∧ FlushRel w g l c xs k wr) (fun i _ => N - (intOf i).toNat)
  case atStart => exact ⟨0, Nat.zero_le _, rfl, by rw [mapTo_zero]; exact HR.out, Chg.refl w _⟩
  case round =>
    obtain ⟨k, hk, rfl, hr, hcg⟩ := hrel
    have hln : (mapTo flushR xs k).length = N := by rw [mapTo_len, HN.out]
    have HRR := Lib.hid hr; have HC := Lib.hid hcg; have HLN := Lib.hid hln
    have hc0 : ∀ w', Nw wr w' → w'.cell? ⟨g, 0, none⟩ = some (.slice (some ⟨l, 0, none⟩) N c) := fun w' k => by rw [(HRR.out.nw k).obj.cell 0, ← HLN.out]; rfl
    have hc00 := hc0 wr (Nw.refl wr)
    clear hr hcg hln
    by_cases hlt : k < N
    · obtain ⟨x, hx⟩ : ∃ x, (mapTo flushR xs k)[k]? = some x := ⟨(mapTo flushR xs k)[k]'(by rw [HLN.out]; exact hlt), List.getElem?_eq_getElem _⟩
      obtain ⟨_, e65, _, _, _⟩ := cell_of HRR.out.row hx
      have HX := Lib.hid hx
      have hst := mapTo_step flushR xs k hx (by rw [HN.out]; exact hlt)
      have HST := Lib.hid hst
      clear hx hst
      rcases hop : x.op with _ | _
      · rw [hop] at e65
        have HOP := Lib.hid hop; clear hop
        have HL := Lib.hid (fun (w' : World) (n : Nw wr w') => last_any x ((HRR.out.nw n).sub x (List.mem_of_getElem? HX.out)).1 ((HRR.out.nw n).sub x (List.mem_of_getElem? HX.out)).2)
        obtain ⟨s, hs⟩ : ∃ s, lastR x = s := ⟨_, rfl⟩
        have hls : s.length = 64 := by rw [← hs]; exact lastR_64 x
        rw [hs] at HL
        have LS := Lib.hid hls; have HS := Lib.hid hs; clear hls hs
        unfold rv at HL
        go_wp2_with fail
        clear e65
        refine wp_region_U [15] (fun w' => Nw wr w') (by kernel_rfl) ?_
        change wpU _ _ _ _ _ _ _ _ _ (World.drew wr)
        refine U_segL (r := [0, 1, 2, 3, 4, 5, 6, 7, 8, 9, 10, 11]) (fuel := 4) rfl (by kernel_rfl) (by kernel_rfl) (by simp only [List.filterMap_cons, List.filterMap_nil, List.getElem?_toArray, List.getElem?_cons_succ, List.getElem?_cons_zero]; rfl) (fun _ _ d _ _ h => by cases d <;> exact h) (gb_drew (Nw.refl wr)) ?_
        iterate 11 (refine wpYield_step rfl (fun K hK => ?_)
                    apply Exists.intro
                    refine ⟨fun w' hw' => ?_, ?_⟩
                    · (go_simp; try with_reducible rfl)
                    go_simp
                    refine hK _ ?_
                    clear hK K)
        refine wpYield_load_agg 61 _ rfl rfl rfl (rc x) (fun w' hw' => (HRR.out.nw hw').row.atL rc_len (by omega) HX.out) _ Try.underlying61 rfl (i61.trans (by rw [rc_len])) ?_
        refine wpYield_nil ?_
        refine U_eff 12 rfl (by kernel_rfl) rfl (fun K hK => ?_)
        go_simp
        refine (HL.out wr.drew (gb_drew (Nw.refl wr))).mono ?_
        rintro e w3 ⟨rfl, n3⟩
        refine hK _ _ ⟨until_of (gb_of_drew n3), ?_⟩
        clear hK K
        refine U_segP (r := [13, 14]) (fuel := 1) rfl (by kernel_rfl) (by kernel_rfl) (by simp only [List.filterMap_cons, List.filterMap_nil, List.getElem?_toArray, List.getElem?_cons_succ, List.getElem?_cons_zero]; rfl) (fun _ _ d _ _ h => by cases d <;> exact h) (until_of (gb_of_drew n3)) ?_
        iterate 2 (refine wpYield_step rfl (fun K hK => ?_)
                   apply Exists.intro
                   refine ⟨fun w' hw' => ?_, ?_⟩
                   · (go_simp; try with_reducible rfl)
                   go_simp
                   refine hK _ ?_
                   clear hK K)
        refine wpYield_nil ?_
        refine U_eff 15 rfl (by kernel_rfl) rfl (fun K hK => ?_)
        have HR3 := Lib.hid (HRR.out.nw (gb_of_drew n3))
        obtain ⟨w4, hrun, o4, g4⟩ := run_store_own (P := Try.prog) (cs := s.map bv) (off := k * 66) 27 (v := .agg (s.map bv).toArray) rfl (i27.trans (by rw [List.length_map, LS.out])) (bv_one _) HR3.out.row (by rw [List.length_map, LS.out, HLN.out]; omega)
        refine wp_ran_skip (run_exec_store 27 _ _ rfl rfl rfl hrun) ?_
        refine hK _ _ ⟨until_past (by kernel_rfl), ?_⟩
        clear hK K hc0 hc00
        refine U_done (by kernel_rfl) ?_ _
        rw [fl_splice rc_len (by rw [List.length_map, LS.out]; omega) (lasR_rc x s LS.out) _ _ HX.out] at o4
        have cg4 : Chg w3 w4 [l] := Chg.of_gb g4 (by intro y e; injection e with e; simp [e])
        have RR4 := Lib.hid (HR3.out.put o4 cg4 (HR3.out.subK cg4 x (List.mem_of_getElem? HX.out)))
        have C4 := Lib.hid ((HC.out.trans (Chg.of_nw (gb_of_drew n3) : Chg wr w3 [l]) (fun x hx => .inl hx)).trans cg4 (fun x hx => .inl hx))
        have HX4 := Lib.hid (show ((mapTo flushR xs k).set k (lasR x s LS.out))[k]? = some (lasR x s LS.out) from List.getElem?_set_self (by rw [HLN.out]; exact hlt))
        obtain ⟨e64, _, _, f64, _⟩ := cell_of RR4.out.row HX4.out
        have c9 := RR4.out.obj.cell 0
        rw [List.length_set, HLN.out, show (#[Value.slice (some ⟨l, 0, none⟩) N c])[0]? = some (.slice (some ⟨l, 0, none⟩) N c) from rfl] at c9
        clear hrun o4 g4 cg4 n3
        go_wp2
        have cg : Chg w4 (w4.setCell ⟨l, k * 66 + 64, none⟩ (.slice none 0 0)) [l] := Chg.set w4 (p := ⟨l, k * 66 + 64, none⟩) (List.mem_cons_self ..) _
        have st := (Own.set RR4.out.row (k * 66 + 64) (.slice none 0 0)).1
        rw [fl_set1 rc_len (by omega) (nilR_rc (lasR x s LS.out)) _ _ HX4.out] at st
        have rr := RR4.out.put st cg (show Own _ 0 27 64 none 0 0 [] ∧ 0 ≤ maxLen from ⟨Own.nil, Nat.zero_le _⟩)
        rw [List.set_set] at rr
        have e : nilR (lasR x s LS.out) = flushR x := by
          have h1 := HOP.out
          have h2 := HS.out
          subst h2
          unfold flushR nilR lasR
          simp [h1]
        rw [e, HST.out] at rr
        exact ⟨⟨k + 1, hlt, by go_num, rr, C4.out.trans cg (fun x hx => .inl hx)⟩, by simp [intOf]; omega⟩
      · rw [hop] at e65
        have HOP := Lib.hid hop; clear hop
        go_wp2
        have e : flushR x = x := by unfold flushR; rw [if_pos HOP.out]
        have hst := HST.out
        rw [e, set_same _ _ _ HX.out] at hst
        exact ⟨⟨k + 1, hlt, by go_num, by rw [← hst]; exact HRR.out, HC.out⟩, by simp [intOf]; omega⟩
    · have hk' : k = N := by omega
      go_wp2
      go_end0
      have rr := HRR.out
      rw [hk', ← HN.out, mapTo_all] at rr
      refine ⟨rfl, _, ⟨l, c, _, rr, ?_, rfl⟩, ?_, ?_⟩
      · rw [HM.out, List.map_map, List.map_map]; congr 1; funext x; exact (abs_flush x).symm
      · refine HC.out.wide ?_
        rw [HF.out]
        intro x hx
        simp at hx
        simp [hx]
      · intro y hy
        left
        rw [HF.out]
        simp only [List.mem_cons, List.mem_flatMap, List.mem_map] at hy ⊢
        rcases hy with h | h | ⟨z, ⟨z', hz, rfl⟩, hy⟩
        · exact .inl h
        · exact .inr (.inl h)
        · refine .inr (.inr ⟨z', hz, ?_⟩)
          unfold flushR at hy
          split at hy
          · exact hy
          · simp [blkOf] at hy
end Go.Proofs.Ytblkdmnfmnbbeaa

