/- The walk of ScriptQuiet. -/
import Derived.Test.YtmcgfnfhpcddlaaJX
import Derived.Test.YtmcgfnfhpcddlaaJK
set_option linter.unusedVariables false
set_option linter.unusedSimpArgs false
namespace Go.Proofs.Ytmcgfnfhpcddlaa
open Go.RowKit Go.BW

def P44 : Nat → Option (Nat × Nat) := fun x => [(0, 1), (1, 1), (2, 64), (66, 1), (67, 1), (68, 1)][x]?
def rd2 (b : Int) : Act := ⟨2, b, z64, 0, 0, 0⟩
set_option maxRecDepth 100000 in
theorem fill44 (b : Int) : Instr.fill P44 (actC (a0 0)).toArray [(0, .int .i64 2), (1, .int .i64 b)] = some (actC (rd2 b)).toArray := rfl
theorem run_build_read {o : Oper} {a : Go.Act} {w : World} (v u : Operand) (hop : o.op = .build 44 #[(0, v), (1, u)]) (b : Int) (hv : a.eval v = .int .i64 2) (hu : a.eval u = .int .i64 b) : (execOp a.eval o).run Try.prog w = .ok (.value (.agg (actC (rd2 b)).toArray)) w := by
  obtain ⟨i0, hi0, hz0⟩ := Option.map_eq_some_iff.1 z44
  simp only [Prod.mk.injEq] at hz0
  have hzv : (zeroValue 44).run Try.prog w = .ok (.agg (actC (a0 0)).toArray) w := by simp [zeroValue, typeInfo, hi0, hz0.1]
  obtain ⟨j33, hj33, hs33⟩ := Option.map_eq_some_iff.1 i33
  obtain ⟨j3, hj3, hs3⟩ := Option.map_eq_some_iff.1 i3
  obtain ⟨j31, hj31, hs31⟩ := Option.map_eq_some_iff.1 (show (Try.prog.info? 31).map (·.size) = some 1 from by kernel_rfl)
  have hc : (Value.agg (actC (a0 0)).toArray).cells = (actC (a0 0)).toArray := rfl
  have hp : ∀ vs, Instr.fill (fun x => [(0, 1), (1, 1), (2, 64), (66, 1), (67, 1), (68, 1)][x]?) (actC (a0 0)).toArray vs = Instr.fill P44 (actC (a0 0)).toArray vs := fun _ => rfl
  unfold execOp
  simp [hop, hv, hu, Instr.build, Sem.run_bind, hzv, run_underlying Try.underlying44, hj33, hs33, hj3, hs3, hj31, hs31, sizeOf, typeInfo]
  rw [hc, hp, fill44]
  simp
theorem wpList_read44 {ops : Array Oper} {rest : List Oper} {o : Oper} {a : Go.Act} {Q : Exit → Go.Act → World → Prop} {w : World} (v u : Operand) (hop : o.op = .build 44 #[(0, v), (1, u)]) (hw : Region.wanted o (yielded ops a.tmps) = true) (b : Int) (hv : a.eval v = .int .i64 2) (hu : a.eval u = .int .i64 b)
    (hK : wpList Try.prog ops Q rest (a.put o.dst (.agg (actC (rd2 b)).toArray)) w) : wpList Try.prog ops Q (o :: rest) a w := wpList_ran hw (run_build_read v u hop b hv hu) hK
/-- so many reads -/
def readsL (j : Nat) : List Act := (List.range j).map (fun i : Nat => rd2 (i : Int))
theorem readsL_succ (j : Nat) : readsL (j + 1) = readsL j ++ [rd2 (j : Int)] := by unfold readsL; rw [List.range_succ, List.map_append]; rfl
theorem readsL_ok (j : Nat) : ∀ a ∈ readsL j, ActOk a := by
  intro a h
  obtain ⟨i, _, rfl⟩ := List.mem_map.1 h
  exact ⟨by simp [rd2, z64], by simp [rd2]⟩
theorem readsL_right {s : Scr} (h : rightS s = true) {j : Nat} (hj : j ≤ 120) : rightS ⟨s.num, s.sz, s.bl, readsL j⟩ = true := by
  obtain ⟨h1, h2, h3, h4, h5, h6⟩ := rightS_parts h
  unfold rightS
  simp only [Bool.and_eq_true, inR_iff, decide_eq_true_eq, List.all_eq_true]
  refine ⟨⟨⟨⟨⟨h1, by omega⟩, h3⟩, by unfold readsL; rw [List.length_map, List.length_range]; exact hj⟩, h5⟩, fun a ha => ?_⟩
  obtain ⟨i, hi, rfl⟩ := List.mem_map.1 ha
  rw [List.mem_range] at hi
  unfold rightA rd2 knownK bareA mostN inR
  simp
  omega
def QR (w : World) (y : Nat) (tn tb : Int) (A2 : Option Addr) (n2 c2 : Nat) (tz : List Int) (A' : Option Addr) (j c' : Nat) (wr : World) : Prop :=
  Obj1 wr y 25 #[.int .i64 tn, .slice A2 n2 c2, .int .i64 tb, .slice A' j c'] ∧ Own wr w.heap.size 3 1 A2 n2 c2 (tz.map iv) ∧ Own wr w.heap.size 44 69 A' j c' (fl actC (readsL j)) ∧ Nw w wr
theorem own_past {w w' : World} {b s n c t : Nat} {e : TypeId} {A : Option Addr} {xs : List Value} {cs : Array Value} (h : Own w b e s A n c xs) (o : Obj1 w t 35 cs) (k : Chg w w' [t]) (he : e ≠ 35) : Own w' b e s A n c xs :=
  own_chg h k (fun r hr hm => by obtain ⟨_, q⟩ := h.rowObj r hr; rw [List.mem_singleton] at hm; exact (q.ne o he) hm)
set_option maxRecDepth 100000 in
set_option maxHeartbeats 8000000 in
theorem quiet_walk {w : World} {B : Nat} {x : Sc} (h : SOk w B x) (hB : B ≤ w.heap.size) {keep : Nat} (hkp : keep < 18446744073709551616) : Calls Try.prog 4 #[sv x, .int .u64 (keep : Int)] w (Ret (.bool true) w) := by
  have HSH := Lib.hid (fun w' => shown_any w')
  unfold Ret at HSH
  have HT := Lib.hid (fun w' (k : Nw w w') => tame_any (h.nw k hB) (Nat.le_trans hB k.size))
  have hok := tameS_ok h.scrOk
  have hrt := tameS_right (scr x)
  obtain ⟨T, hT⟩ : ∃ T, tameS (scr x) = T := ⟨_, rfl⟩
  rw [hT] at HT hok hrt
  unfold ScPost sv at HT
  unfold sv
  obtain ⟨num, A, n, c, sz, bl, D, m, d, acts⟩ := x
  obtain ⟨tn, tz, tb, ta⟩ := T
  simp only at HT ⊢
  have hbox := Obj1.new w 25 #[.int .i64 num, .slice A n c, .int .i64 bl, .slice D m d]
  have hg0 := World.grownBy_alloc w (.cells #[.int .i64 num, .slice A n c, .int .i64 bl, .slice D m d] 25) none
  obtain ⟨W, hW⟩ : ∃ W, w.alloc (.cells #[.int .i64 num, .slice A n c, .int .i64 bl, .slice D m d] 25) = W := ⟨_, rfl⟩
  obtain ⟨y, hy⟩ : ∃ y, w.heap.size = y := ⟨_, rfl⟩
  rw [hW] at hbox hg0
  rw [hy] at hbox
  have B0 := Lib.hid hbox; have N0 := Lib.hid hg0
  have hwy : w.heap.size ≤ y := by omega
  have HRT := Lib.hid hrt; have HOK := Lib.hid hok; have HKP := Lib.hid hkp; have HWY := Lib.hid hwy
  clear hbox hg0 h hrt hok hT hkp hB
  go_enter Try.func4, Try.ntmps4
  go_upto_region 3 with (first
    | ((with_reducible refine wpList_store_obj 25 _ _ (by with_unfolding_all exact rfl) (by with_unfolding_all exact rfl) [.int .i64 tn, .slice A2 n2 c2, .int .i64 tb, .slice D2 m2 d2] (by with_unfolding_all exact rfl) (by with_unfolding_all exact rfl) (by with_unfolding_all exact rfl) (by kernel_rfl) (sc_one _ _ _ _ _ _ _ _) P2.out (by with_unfolding_all exact rfl) ?_); intro w3 s3 g3)
    | ((with_reducible refine (HT.out _ N1.out).mono ?_); rintro e w2 ⟨A2, D2, n2, c2, m2, d2, rfl, o2, q2, k2⟩; have P2 := Lib.hid (B1.out.nw k2); have N2 := Lib.hid (gb_trans N1.out k2); have O2 := Lib.hid (o2.more N1.out.size); have Q2 := Lib.hid (q2.more N1.out.size))
    | ((with_reducible refine wpList_load_obj 25 _ (by with_unfolding_all exact rfl) (by with_unfolding_all exact rfl) (by with_unfolding_all exact rfl) B1.out _ Try.underlying25 (by with_unfolding_all exact rfl) (by kernel_rfl) ?_))
    | ((with_reducible refine (HSH.out _).mono ?_); rintro e w1 ⟨rfl, k1⟩; have B1 := Lib.hid (B0.out.nw k1); have N1 := Lib.hid (gb_trans N0.out k1)))
  have P3 := Lib.hid s3; have Z3 := Lib.hid (own_keep25 O2.out P2.out g3); have A3 := Lib.hid (own_keep25 Q2.out P2.out g3)
  have N3 := Lib.hid (nw_of_gb N2.out g3 (fun q hq => by injection hq with hq; omega))
  have HMA := Lib.hid (show ta.length = m2 from A3.out.lenL actC_len (by decide))
  clear s3 g3 o2 q2 k2 k1 P2 N2 O2 Q2 B1 N1 B0 N0 HT HSH hy hW hwy
  have p3 := P3.out.cell 3
  go_upto_region 4 with fail
  clear p3
  go_upto_region 5 with (first | ((with_reducible refine wpList_store_obj' 23 _ _ (by with_unfolding_all exact rfl) (by with_unfolding_all exact rfl) (i := 3) (.slice none 0 0) (by with_unfolding_all exact rfl) (by with_unfolding_all exact rfl) (by kernel_rfl) (by with_unfolding_all exact rfl) P3.out (by with_unfolding_all exact rfl) (by with_unfolding_all exact rfl) ?_); intro w4 s4 g4))
  have hwy := HWY.out
  have P4 := Lib.hid (show Obj1 w4 y 25 #[.int .i64 tn, .slice A2 n2 c2, .int .i64 tb, .slice none 0 0] from s4); have Z4 := Lib.hid (own_keep25 Z3.out P3.out g4); have N4 := Lib.hid (nw_of_gb N3.out g4 (fun q hq => by injection hq with hq; omega))
  have HM := Lib.hid (show m2 ≤ 120 from by rw [← HMA.out]; exact (rightS_parts HRT.out).2.2.2.1)
  clear s4 g4 P3 Z3 N3 A3
  have gT := World.grownBy_alloc w4 (.cells (toy0C keep 0 z64) 35) none
  have xT := Obj1.new w4 35 (toy0C keep 0 z64)
  obtain ⟨W5, hW⟩ : ∃ V, w4.alloc (.cells (toy0C keep 0 z64) 35) = V := ⟨_, rfl⟩
  obtain ⟨t, ht⟩ : ∃ t, w4.heap.size = t := ⟨_, rfl⟩
  rw [hW] at gT xT
  rw [ht] at xT
  have sok5 : SOk W5 w4.heap.size ⟨tn, A2, n2, c2, tz, tb, none, 0, 0, []⟩ := ⟨Z4.out.rd.nw gT (Nat.le_refl _), Z4.out.cap.1, Z4.out.cap.2, Rd.nil, Nat.le_refl _, Nat.zero_le _, by simp⟩
  have HR := run_honest sok5 gT.size (by exact right_take HRT.out 0) xT (by simp [z64]) HKP.out (by omega)
  unfold sv tIf pv HonestPost at HR
  have HR' := Lib.hid HR
  have P5 := Lib.hid (P4.out.nw gT); have Z5 := Lib.hid (Z4.out.nw gT); have N5 := Lib.hid (gb_trans N4.out gT); have X5 := Lib.hid xT
  have hyt : y ≠ t := P5.out.ne xT (by decide)
  have hwt : w.heap.size ≤ t := by have := N4.out.size; omega
  clear gT xT sok5 HR
  go_upto_region 6 with (first
    | (go_at_call 14; (with_reducible refine HR'.out.mono ?_); rintro e w6 ⟨rfl, c6⟩)
    | (refine wpList_toy3 _ rfl rfl (keep := keep) rfl ?_)
    | ((with_reducible refine wpList_load_obj 25 _ (by with_unfolding_all exact rfl) (by with_unfolding_all exact rfl) (by with_unfolding_all exact rfl) P4.out _ Try.underlying25 (by with_unfolding_all exact rfl) (by kernel_rfl) ?_)))
  have R0 := Lib.hid (show QR w y tn tb A2 n2 c2 tz none 0 0 w6 from ⟨P5.out.chg c6 (by simpa using hyt), own_past Z5.out X5.out c6 (by decide), Own.nil, ((Chg.of_nw (F := [t]) N5.out).trans c6 (fun _ h => .inl h)).nw (fun q hq => by simp at hq; omega)⟩)
  clear c6 hW ht P4 Z4 N4 P5 Z5 N5 X5 HR' hyt hwt
  go_wp2_with fail
  go_loopw [9] (fun i wr => ∃ (j c' : Nat) (A' : Option Addr), j ≤ m2 ∧ i = .int .i64 j ∧ QR w y tn tb A2 n2 c2 tz A' j c' wr) (fun i _ => m2 - (intOf i).toNat)
  case atStart => exact ⟨0, 0, none, Nat.zero_le _, rfl, R0.out⟩
  case round =>
    clear R0
    obtain ⟨j, c', A', hj, rfl, hp, hz, ha, hn⟩ := hrel
    have hm120 : m2 ≤ 120 := HM.out
    have PR := Lib.hid hp; have ZR := Lib.hid hz; have AR := Lib.hid ha; have NR := Lib.hid hn
    have p3 := hp.cell 3
    have hbs : w.heap.size ≤ wr.heap.size := hn.size
    clear hp hz ha hn
    rcases (show j < m2 ∨ j = m2 by omega) with hlt | rfl
    · have d1 : (j : Int) < (m2 : Int) := by omega
      have hj128 : (j : Int) % 128 = (j : Int) := by omega
      have m1 : bits BinOp.and IntKind.i64 (j : Int) 127 = (j : Int) := (and_m _ 127 7 (by decide) (by decide) 128 (by decide)).trans hj128
      clear hj128
      go_wp2_with (first
        | ((with_reducible refine wpList_store_obj' 23 _ _ (by with_unfolding_all exact rfl) (by with_unfolding_all exact rfl) (i := 3) (.slice A8 (j + 1) c8) (by with_unfolding_all exact rfl) (by with_unfolding_all exact rfl) (by kernel_rfl) (by with_unfolding_all exact rfl) P8.out (by with_unfolding_all exact rfl) (by with_unfolding_all exact rfl) ?_); intro w9 s9 g9)
        | (at_builtin; refine wpList_appN_own T23 (cs := actC (rd2 (j : Int))) _ _ rfl rfl rfl rfl AR.out (actC_len _) (actC_one _) (by unfold maxLen; omega) hbs ?_; intro A8 c8 w8 o8 g8 b8; have P8 := Lib.hid (Obj1.kept'' PR.out g8 (own_obj' AR.out PR.out (by decide))))
        | ((with_reducible refine wpList_buildSlice1 T23 _ (by with_unfolding_all exact rfl) (by with_unfolding_all exact rfl) (v := .agg (actC (rd2 (j : Int))).toArray) (by with_unfolding_all exact rfl) (actCs _) (by decide) ?_))
        | ((with_reducible refine wpList_read44 _ _ (by with_unfolding_all exact rfl) (by with_unfolding_all exact rfl) (j : Int) (by with_unfolding_all exact rfl) (by with_unfolding_all exact rfl) ?_)))
      go_roundw
      case rel =>
        have P9 : Obj1 w9 y 25 #[.int .i64 tn, .slice A2 n2 c2, .int .i64 tb, .slice A8 (j + 1) c8] := s9
        have Z8 := ZR.out.kept g8 (fun r hr he => own_apart' AR.out ZR.out (by decide) r hr he)
        have a9 := own_keep25 o8 P8.out g9
        have ea : fl actC (readsL j) ++ actC (rd2 (j : Int)) = fl actC (readsL (j + 1)) := by rw [readsL_succ, fl_app, fl_one]
        rw [ea] at a9
        exact ⟨j + 1, c8, A8, hlt, by go_num, P9, own_keep25 Z8 P8.out g9, a9, nw_of_gb (nw_of_gb NR.out g8 AR.out.blk) g9 (fun q hq => by injection hq with hq; have := HWY.out; omega)⟩
      case measure => simp only [intOf]; omega
    · have d1 : decide ((j : Int) < (j : Int)) = false := by simp
      clear p3
      have gT := World.grownBy_alloc wr (.cells (toy0C keep 0 z64) 35) none
      have xT := Obj1.new wr 35 (toy0C keep 0 z64)
      obtain ⟨W5, hW⟩ : ∃ V, wr.alloc (.cells (toy0C keep 0 z64) 35) = V := ⟨_, rfl⟩
      obtain ⟨t, ht⟩ : ∃ t, wr.heap.size = t := ⟨_, rfl⟩
      rw [hW] at gT xT
      rw [ht] at xT
      have sok5 : SOk W5 wr.heap.size ⟨tn, A2, n2, c2, tz, tb, A', j, c', readsL j⟩ := ⟨ZR.out.rd.nw gT (Nat.le_refl _), ZR.out.cap.1, ZR.out.cap.2, AR.out.rd.nw gT (Nat.le_refl _), AR.out.cap.1, AR.out.cap.2, readsL_ok j⟩
      have HR := run_honest sok5 gT.size (by exact readsL_right HRT.out hm120) xT (by simp [z64]) HKP.out (by omega)
      unfold sv tIf pv HonestPost at HR
      have HR' := Lib.hid HR
      have N5 := Lib.hid (gb_trans NR.out gT)
      have hwt : w.heap.size ≤ t := by omega
      have e1 : ((j : Int) == (j : Int)) = true := by simp
      clear gT xT sok5 HR hbs
      go_upto_region 11 with (first
        | (go_at_call 14; (with_reducible refine HR'.out.mono ?_); rintro e w6 ⟨rfl, c6⟩)
        | (refine wpList_toy3 _ rfl rfl (keep := keep) rfl ?_)
        | ((with_reducible refine wpList_load_obj 25 _ (by with_unfolding_all exact rfl) (by with_unfolding_all exact rfl) (by with_unfolding_all exact rfl) PR.out _ Try.underlying25 (by with_unfolding_all exact rfl) (by kernel_rfl) ?_)))
      have N6 := Lib.hid (((Chg.of_nw (F := [t]) N5.out).trans c6 (fun _ h => .inl h)).nw (fun q hq => by simp at hq; omega))
      clear c6 hW ht HR'
      go_wp2_with fail
      go_ret
      exact ⟨rfl, N6.out⟩
theorem quiet_all {w : World} (x : Sc) (h : SIn w x) (k : Int) (hk : 0 ≤ k ∧ k ≤ 18446744073709551615) : Calls Try.prog 4 #[sv x, .int .u64 k] w (Ret (.bool true) w) := by
  obtain ⟨keep, rfl⟩ := Int.eq_ofNat_of_zero_le hk.1
  exact quiet_walk h (Nat.le_refl _) (by omega)
end Go.Proofs.Ytmcgfnfhpcddlaa

