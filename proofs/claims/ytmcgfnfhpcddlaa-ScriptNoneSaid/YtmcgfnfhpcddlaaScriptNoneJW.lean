/- The walk of ScriptNone. -/
import Derived.Test.YtmcgfnfhpcddlaaJX
import Derived.Test.YtmcgfnfhpcddlaaJK
set_option linter.unusedVariables false
set_option linter.unusedSimpArgs false
namespace Go.Proofs.Ytmcgfnfhpcddlaa
open Go.RowKit Go.BW

set_option maxRecDepth 100000 in
set_option maxHeartbeats 8000000 in
theorem none_walk {w : World} {B : Nat} {x : Sc} (h : SOk w B x) (hB : B ≤ w.heap.size) (e0 : Int) : Calls Try.prog 3 #[sv x, .int .i64 e0] w (Ret (.bool true) w) := by
  have HSH := Lib.hid (fun w' => shown_any w')
  unfold Ret at HSH
  have HT := Lib.hid (fun w' (k : Nw w w') => cut_any (h.nw k hB) (Nat.le_trans hB k.size))
  have hok := cut_ok h.scrOk
  obtain ⟨T, hT⟩ : ∃ T, cutS (scr x) = T := ⟨_, rfl⟩
  rw [hT] at HT hok
  unfold ScPost sv at HT
  unfold sv
  obtain ⟨num, A, n, c, sz, bl, D, m, d, acts⟩ := x
  obtain ⟨tn, tz, tb, ta⟩ := T
  simp only at HT ⊢
  have hbox := Obj1.new w 25 #[.int .i64 num, .slice A n c, .int .i64 bl, .slice D m d]
  have hg0 := World.grownBy_alloc w (.cells #[.int .i64 num, .slice A n c, .int .i64 bl, .slice D m d] 25) none
  obtain ⟨W, hW⟩ : ∃ W, w.alloc (.cells #[.int .i64 num, .slice A n c, .int .i64 bl, .slice D m d] 25) = W := ⟨_, rfl⟩
  obtain ⟨y, hy⟩ : ∃ y, w.heap.size = y := ⟨_, rfl⟩
  rw [hW] at hbox hg0
  rw [hy] at hbox
  have B0 := Lib.hid hbox; have N0 := Lib.hid hg0
  have hwy : w.heap.size ≤ y := by omega
  have HOK := Lib.hid hok; have HWY := Lib.hid hwy
  clear hbox hg0 h hok hT hB
  go_enter Try.func3, Try.ntmps3
  go_upto_region 3 with (first
    | ((with_reducible refine wpList_store_obj 25 _ _ (by with_unfolding_all exact rfl) (by with_unfolding_all exact rfl) [.int .i64 tn, .slice A2 n2 c2, .int .i64 tb, .slice D2 m2 d2] (by with_unfolding_all exact rfl) (by with_unfolding_all exact rfl) (by with_unfolding_all exact rfl) (by kernel_rfl) (sc_one _ _ _ _ _ _ _ _) P2.out (by with_unfolding_all exact rfl) ?_); intro w3 s3 g3)
    | ((with_reducible refine (HT.out _ N1.out).mono ?_); rintro e w2 ⟨A2, D2, n2, c2, m2, d2, rfl, o2, q2, k2⟩; have P2 := Lib.hid (B1.out.nw k2); have N2 := Lib.hid (gb_trans N1.out k2); have O2 := Lib.hid (o2.more N1.out.size); have Q2 := Lib.hid (q2.more N1.out.size))
    | ((with_reducible refine wpList_load_obj 25 _ (by with_unfolding_all exact rfl) (by with_unfolding_all exact rfl) (by with_unfolding_all exact rfl) B1.out _ Try.underlying25 (by with_unfolding_all exact rfl) (by kernel_rfl) ?_))
    | ((with_reducible refine (HSH.out _).mono ?_); rintro e w1 ⟨rfl, k1⟩; have B1 := Lib.hid (B0.out.nw k1); have N1 := Lib.hid (gb_trans N0.out k1)))
  have P3 := Lib.hid s3; have Z3 := Lib.hid (own_keep25 O2.out P2.out g3); have A3 := Lib.hid (own_keep25 Q2.out P2.out g3)
  have N3 := Lib.hid (nw_of_gb N2.out g3 (fun q hq => by injection hq with hq; omega))
  have HMA := Lib.hid (show ta.length = m2 from A3.out.lenL actC_len (by decide))
  clear s3 g3 o2 q2 k2 k1 P2 N2 O2 Q2 B1 N1 B0 N0 HT HSH hy hW hwy
  go_upto_region 4 with (refine wpList_toy0 rfl rfl ?_)
  have gT := World.grownBy_alloc w3 (.cells (toy0C 0 0 z64) 35) none
  have xT := Obj1.new w3 35 (toy0C 0 0 z64)
  obtain ⟨W4, hW⟩ : ∃ V, w3.alloc (.cells (toy0C 0 0 z64) 35) = V := ⟨_, rfl⟩
  obtain ⟨t, ht⟩ : ∃ t, w3.heap.size = t := ⟨_, rfl⟩
  rw [hW] at gT xT
  rw [ht] at xT ⊢
  rw [hW]
  have sok4 : SOk W4 w3.heap.size ⟨tn, A2, n2, c2, tz, tb, D2, m2, d2, ta⟩ := ⟨Z3.out.rd.nw gT (Nat.le_refl _), Z3.out.cap.1, Z3.out.cap.2, A3.out.rd.nw gT (Nat.le_refl _), A3.out.cap.1, A3.out.cap.2, HOK.out.a⟩
  have hyt : y ≠ t := (P3.out.nw gT).ne xT (by decide)
  have P4 := Lib.hid (P3.out.nw gT); have N4 := Lib.hid (gb_trans N3.out gT); have XT := Lib.hid xT; have S4 := Lib.hid sok4
  have hwt : w.heap.size ≤ t := by have := N3.out.size; omega
  have hBt : w3.heap.size ≤ t := by omega
  have HB4 := Lib.hid (show w3.heap.size ≤ W4.heap.size from gT.size)
  clear gT xT hW ht sok4 Z3 A3 P3 N3
  obtain ⟨er, her⟩ : ∃ er, 1 + e0 % 8 = er := ⟨_, rfl⟩
  obtain ⟨aq, haq⟩ : ∃ aq, e0 % 8 = aq := ⟨_, rfl⟩
  have m1 : bits BinOp.and IntKind.i64 e0 7 = aq := by rw [← haq]; exact and_m _ _ 3 (by decide) (by decide) _ (by decide)
  have hwa : IntKind.i64.wrap (1 + aq) = er := by rw [IntKind.wrap_i64]; omega
  obtain ⟨q, hq⟩ : ∃ q, rightS ⟨tn, tz, tb, ta⟩ = q := ⟨_, rfl⟩
  have HRI := fun w' (c : Chg W4 w' [t]) => right_any (S4.out.chg c (by intro f hf; simp at hf; omega) HB4.out) (Nat.le_trans HB4.out c.size)
  rw [show rightS (scr ⟨tn, A2, n2, c2, tz, tb, D2, m2, d2, ta⟩) = q from hq] at HRI
  have HTM := fun w' (c : Chg W4 w' [t]) => tame_any (S4.out.chg c (by intro f hf; simp at hf; omega) HB4.out) (Nat.le_trans HB4.out c.size)
  have hrt := tameS_right ⟨tn, tz, tb, ta⟩
  have hto := tameS_ok HOK.out
  rw [show scr ⟨tn, A2, n2, c2, tz, tb, D2, m2, d2, ta⟩ = ⟨tn, tz, tb, ta⟩ from rfl] at HTM
  obtain ⟨U, hU⟩ : ∃ U, tameS ⟨tn, tz, tb, ta⟩ = U := ⟨_, rfl⟩
  rw [hU] at HTM hrt hto
  obtain ⟨un, uz, ub, ua⟩ := U
  have HNB := fun (w9 : World) (A9 D9 : Option Addr) (n9 c9 m9 d9 : Nat) (b : Nat) (o9 : Own w9 b 3 1 A9 n9 c9 (uz.map iv)) (q9 : Own w9 b 44 69 D9 m9 d9 (fl actC ua)) => run_nobody (x := ⟨un, A9, n9, c9, uz, ub, D9, m9, d9, ua⟩) ⟨o9.rd, o9.cap.1, o9.cap.2, q9.rd, q9.cap.1, q9.cap.2, hto.a⟩ (Nat.le_refl _) hrt er
  unfold ScPost sv at HTM
  unfold Ret sv at HRI HNB
  simp only at HTM HRI HNB
  have HRI' := Lib.hid HRI; have HTM' := Lib.hid HTM; have HNB' := Lib.hid HNB
  have HP := Lib.hid (fun w' (c : Chg W4 w' [t]) => P4.out.chg c (by simpa using hyt))
  have HN := Lib.hid (fun w' (c : Chg W4 w' [t]) => ((Chg.of_nw (F := [t]) N4.out).trans c (fun _ h => .inl h)).nw (fun q hq => by simp at hq; omega))
  clear HRI HTM HNB haq her hU hrt hto
  rcases q with _ | _
  · have HR := run_not S4.out HB4.out hq (tIf t)
    unfold Ret sv tIf pv at HR
    have HR' := Lib.hid HR
    clear HR
    go_upto_region 5 with (first
      | (go_at_call 14; (with_reducible refine HR'.out.mono ?_); rintro e w5 ⟨rfl, k5⟩; have C5 := Lib.hid (Chg.of_nw (F := [t]) k5); have X5 := Lib.hid (XT.out.nw k5); have P5 := Lib.hid (HP.out _ C5.out))
      | ((with_reducible refine wpList_load_obj 25 _ (by with_unfolding_all exact rfl) (by with_unfolding_all exact rfl) (by with_unfolding_all exact rfl) P4.out _ Try.underlying25 (by with_unfolding_all exact rfl) (by kernel_rfl) ?_)))
    clear k5
    go_upto_region 7 with (first
      | (go_at_call 15; (with_reducible refine (HRI'.out _ C5.out).mono ?_); rintro e w6 ⟨rfl, k6⟩; have C6 := Lib.hid (C5.out.trans (Chg.of_nw k6) (fun _ h => .inl h)); have P6 := Lib.hid (HP.out _ C6.out); have x60 : w6.cell? ⟨t, 0, none⟩ = some (.pointer none) := (X5.out.nw k6).cell 0)
      | ((with_reducible refine wpList_load_obj 25 _ (by with_unfolding_all exact rfl) (by with_unfolding_all exact rfl) (by with_unfolding_all exact rfl) P5.out _ Try.underlying25 (by with_unfolding_all exact rfl) (by kernel_rfl) ?_)))
    go_upto_region 8 with (first
      | (go_at_call 14; (with_reducible refine (HNB'.out _ _ _ _ _ _ _ _ o9 q9).mono ?_); rintro e w9 ⟨rfl, k9⟩)
      | (go_at_call 16; (with_reducible refine (HTM'.out _ C6.out).mono ?_); rintro e w8 ⟨A9, D9, n9, c9, m9, d9, rfl, o9, q9, k8⟩)
      | ((with_reducible refine wpList_load_obj 25 _ (by with_unfolding_all exact rfl) (by with_unfolding_all exact rfl) (by with_unfolding_all exact rfl) P6.out _ Try.underlying25 (by with_unfolding_all exact rfl) (by kernel_rfl) ?_)))
    have FIN := Lib.hid (HN.out _ ((C6.out.trans (Chg.of_nw k8) (fun _ h => .inl h)).trans (Chg.of_nw k9) (fun _ h => .inl h)))
    clear k8 k9 o9 q9
    go_wp2_with fail
    go_ret
    exact ⟨rfl, FIN.out⟩
  · have HR := run_honest S4.out HB4.out hq XT.out (by simp [z64]) (by decide) hBt
    unfold sv tIf pv HonestPost at HR
    have HR' := Lib.hid HR
    clear HR
    go_upto_region 5 with (first
      | (go_at_call 14; (with_reducible refine HR'.out.mono ?_); rintro e w5 ⟨rfl, k5⟩; have C5 := Lib.hid k5; have P5 := Lib.hid (HP.out _ k5))
      | ((with_reducible refine wpList_load_obj 25 _ (by with_unfolding_all exact rfl) (by with_unfolding_all exact rfl) (by with_unfolding_all exact rfl) P4.out _ Try.underlying25 (by with_unfolding_all exact rfl) (by kernel_rfl) ?_)))
    clear k5
    go_upto_region 7 with (first
      | (go_at_call 15; (with_reducible refine (HRI'.out _ C5.out).mono ?_); rintro e w6 ⟨rfl, k6⟩; have C6 := Lib.hid (C5.out.trans (Chg.of_nw k6) (fun _ h => .inl h)); have P6 := Lib.hid (HP.out _ C6.out))
      | ((with_reducible refine wpList_load_obj 25 _ (by with_unfolding_all exact rfl) (by with_unfolding_all exact rfl) (by with_unfolding_all exact rfl) P5.out _ Try.underlying25 (by with_unfolding_all exact rfl) (by kernel_rfl) ?_)))
    go_upto_region 8 with (first
      | (go_at_call 14; (with_reducible refine (HNB'.out _ _ _ _ _ _ _ _ o9 q9).mono ?_); rintro e w9 ⟨rfl, k9⟩)
      | (go_at_call 16; (with_reducible refine (HTM'.out _ C6.out).mono ?_); rintro e w8 ⟨A9, D9, n9, c9, m9, d9, rfl, o9, q9, k8⟩)
      | ((with_reducible refine wpList_load_obj 25 _ (by with_unfolding_all exact rfl) (by with_unfolding_all exact rfl) (by with_unfolding_all exact rfl) P6.out _ Try.underlying25 (by with_unfolding_all exact rfl) (by kernel_rfl) ?_)))
    have FIN := Lib.hid (HN.out _ ((C6.out.trans (Chg.of_nw k8) (fun _ h => .inl h)).trans (Chg.of_nw k9) (fun _ h => .inl h)))
    clear k8 k9 o9 q9
    go_wp2_with fail
    go_ret
    exact ⟨rfl, FIN.out⟩
theorem none_all {w : World} (x : Sc) (h : SIn w x) (a : Int) (ha : -9223372036854775808 ≤ a ∧ a ≤ 9223372036854775807) : Calls Try.prog 3 #[sv x, .int .i64 a] w (Ret (.bool true) w) := none_walk h (Nat.le_refl _) a
end Go.Proofs.Ytmcgfnfhpcddlaa

