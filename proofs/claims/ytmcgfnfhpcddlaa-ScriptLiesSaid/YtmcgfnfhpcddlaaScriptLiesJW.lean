/- The walk of ScriptLies. -/
import Derived.Test.YtmcgfnfhpcddlaaJX
import Derived.Test.YtmcgfnfhpcddlaaJK
set_option linter.unusedVariables false
set_option linter.unusedSimpArgs false
namespace Go.Proofs.Ytmcgfnfhpcddlaa
open Go.RowKit Go.BW

set_option maxRecDepth 100000 in
set_option maxHeartbeats 8000000 in
theorem lies_walk {w : World} {B : Nat} {x : Sc} (h : SOk w B x) (hB : B ≤ w.heap.size) {keep : Nat} (hkp : keep < 18446744073709551616) (at0 : Int) : Calls Try.prog 10 #[sv x, .int .u64 (keep : Int), .int .i64 at0] w (Ret (.bool true) w) := by
  have HSH := Lib.hid (fun w' => shown_any w')
  unfold Ret at HSH
  have HT := Lib.hid (fun w' (k : Nw w w') => tame_any (h.nw k hB) (Nat.le_trans hB k.size))
  have hok := tameS_ok h.scrOk
  have hrt := tameS_right (scr x)
  obtain ⟨T, hT⟩ : ∃ T, tameS (scr x) = T := ⟨_, rfl⟩
  rw [hT] at HT hok hrt
  unfold ScPost sv at HT
  unfold sv
  obtain ⟨num, A, n, c, sz, bl, D, m, d, acts⟩ := x
  obtain ⟨tn, tz, tb, ta⟩ := T
  simp only at HT ⊢
  have hbox := Obj1.new w 25 #[.int .i64 num, .slice A n c, .int .i64 bl, .slice D m d]
  have hg0 := World.grownBy_alloc w (.cells #[.int .i64 num, .slice A n c, .int .i64 bl, .slice D m d] 25) none
  obtain ⟨W, hW⟩ : ∃ W, w.alloc (.cells #[.int .i64 num, .slice A n c, .int .i64 bl, .slice D m d] 25) = W := ⟨_, rfl⟩
  obtain ⟨y, hy⟩ : ∃ y, w.heap.size = y := ⟨_, rfl⟩
  rw [hW] at hbox hg0
  rw [hy] at hbox
  have B0 := Lib.hid hbox; have N0 := Lib.hid hg0
  have hwy : w.heap.size ≤ y := by omega
  have HRT := Lib.hid hrt; have HOK := Lib.hid hok; have HKP := Lib.hid hkp; have HWY := Lib.hid hwy
  clear hbox hg0 h hrt hok hT hkp hB
  go_enter Try.func10, Try.ntmps10
  go_upto_region 3 with (first
    | ((with_reducible refine wpList_store_obj 25 _ _ (by with_unfolding_all exact rfl) (by with_unfolding_all exact rfl) [.int .i64 tn, .slice A2 n2 c2, .int .i64 tb, .slice D2 m2 d2] (by with_unfolding_all exact rfl) (by with_unfolding_all exact rfl) (by with_unfolding_all exact rfl) (by kernel_rfl) (sc_one _ _ _ _ _ _ _ _) P2.out (by with_unfolding_all exact rfl) ?_); intro w3 s3 g3)
    | ((with_reducible refine (HT.out _ N1.out).mono ?_); rintro e w2 ⟨A2, D2, n2, c2, m2, d2, rfl, o2, q2, k2⟩; have P2 := Lib.hid (B1.out.nw k2); have N2 := Lib.hid (gb_trans N1.out k2); have O2 := Lib.hid (o2.more N1.out.size); have Q2 := Lib.hid (q2.more N1.out.size))
    | ((with_reducible refine wpList_load_obj 25 _ (by with_unfolding_all exact rfl) (by with_unfolding_all exact rfl) (by with_unfolding_all exact rfl) B1.out _ Try.underlying25 (by with_unfolding_all exact rfl) (by kernel_rfl) ?_))
    | ((with_reducible refine (HSH.out _).mono ?_); rintro e w1 ⟨rfl, k1⟩; have B1 := Lib.hid (B0.out.nw k1); have N1 := Lib.hid (gb_trans N0.out k1)))
  have P3 := Lib.hid s3; have Z3 := Lib.hid (own_keep25 O2.out P2.out g3); have A3 := Lib.hid (own_keep25 Q2.out P2.out g3)
  have N3 := Lib.hid (nw_of_gb N2.out g3 (fun q hq => by injection hq with hq; omega))
  have HMA := Lib.hid (show ta.length = m2 from A3.out.lenL actC_len (by decide))
  clear s3 g3 o2 q2 k2 k1 P2 N2 O2 Q2 B1 N1 B0 N0 HT HSH hy hW hwy
  obtain ⟨aq, haq⟩ : ∃ aq, at0 % 1024 = aq := ⟨_, rfl⟩
  obtain ⟨at1, hat1⟩ : ∃ at1 : Nat, 1 + aq = (at1 : Int) := ⟨(1 + aq).toNat, by omega⟩
  have hat2 : at1 ≤ 1024 := by omega
  have HAT := Lib.hid hat2
  have m1 : bits BinOp.and IntKind.i64 at0 1023 = aq := by rw [← haq]; exact and_m _ _ 10 (by decide) (by decide) _ (by decide)
  have hwa : IntKind.i64.wrap (1 + aq) = (at1 : Int) := by rw [IntKind.wrap_i64]; omega
  have sok3 : SOk w3 w3.heap.size ⟨tn, A2, n2, c2, tz, tb, D2, m2, d2, ta⟩ := ⟨Z3.out.rd, Z3.out.cap.1, Z3.out.cap.2, A3.out.rd, A3.out.cap.1, A3.out.cap.2, HOK.out.a⟩
  have HM := Lib.hid (show m2 ≤ 120 from by rw [← HMA.out]; exact (rightS_parts HRT.out).2.2.2.1)
  have HUN' := unheard_any sok3 (Nat.le_refl _) (by exact HM.out)
  unfold UnPost sv at HUN'
  have HUN := Lib.hid HUN'
  have S3 := Lib.hid sok3
  clear haq hat1 hat2 HUN' sok3 Z3 A3
  go_upto_region 4 with (first
    | (refine wpList_toy346 _ _ _ rfl rfl (keep := keep) (t := at1) (odd := unS un) (unS_len un) rfl rfl rfl ?_)
    | (go_at_call 24; (with_reducible refine HUN.out.mono ?_); rintro e w4 ⟨un, rfl, hun, n4⟩)
    | ((with_reducible refine wpList_load_obj 25 _ (by with_unfolding_all exact rfl) (by with_unfolding_all exact rfl) (by with_unfolding_all exact rfl) P3.out _ Try.underlying25 (by with_unfolding_all exact rfl) (by kernel_rfl) ?_)))
  have gT := World.grownBy_alloc w4 (.cells (toy0C keep at1 (unS un)) 35) none
  have xT := Obj1.new w4 35 (toy0C keep at1 (unS un))
  obtain ⟨W4, hW⟩ : ∃ V, w4.alloc (.cells (toy0C keep at1 (unS un)) 35) = V := ⟨_, rfl⟩
  obtain ⟨t, ht⟩ : ∃ t, w4.heap.size = t := ⟨_, rfl⟩
  rw [hW] at gT xT
  rw [ht] at xT ⊢
  rw [hW]
  have n34 := gb_trans n4 gT
  have HR := run_lies (S3.out.nw n34 (Nat.le_refl _)) n34.size (by exact HRT.out) xT HAT.out hun HKP.out (by have := n4.size; omega)
  unfold sv tIf pv LiesR at HR
  have hyt : y ≠ t := (P3.out.nw n34).ne xT (by decide)
  have P4 := Lib.hid (P3.out.nw n34); have N4 := Lib.hid (gb_trans N3.out n34)
  have HR' := Lib.hid HR
  have hwt : w.heap.size ≤ t := by have := N3.out.size; have := n4.size; omega
  clear gT xT hW ht HR P3 N3 n34 n4 m1 hwa S3 HUN hun
  go_upto_region 5 with (first
    | (go_at_call 14; (with_reducible refine HR'.out.mono ?_); rintro e w5 ⟨n, ok, rfl, hnm, hok, hl, c5⟩)
    | ((with_reducible refine wpList_load_obj 25 _ (by with_unfolding_all exact rfl) (by with_unfolding_all exact rfl) (by with_unfolding_all exact rfl) P4.out _ Try.underlying25 (by with_unfolding_all exact rfl) (by kernel_rfl) ?_)))
  have p3 := (P4.out.chg c5 (by simpa using hyt)).cell 3
  have d0 : decide ((n : Int) < 0) = false := decide_eq_false (by omega)
  have d1 : decide ((m2 : Int) < (n : Int)) = false := decide_eq_false (by omega)
  have N5 := Lib.hid (((Chg.of_nw (F := [t]) N4.out).trans c5 (fun _ h => .inl h)).nw (fun q hq => by simp at hq; omega))
  clear c5
  rcases ok with _ | _
  · have hl : w5.cell? ⟨t, 6, none⟩ = some (.bool true) := hl
    clear hok
    go_wp2_with fail
    go_ret
    exact ⟨rfl, N5.out⟩
  · have hl : w5.cell? ⟨t, 6, none⟩ = some (.bool false) := hl
    have hn := hok rfl
    have e1 : ((n : Int) == (m2 : Int)) = true := by rw [hn]; simp
    clear hok hn
    go_wp2_with fail
    go_ret
    exact ⟨rfl, N5.out⟩
theorem lies_all {w : World} (x : Sc) (h : SIn w x) (k : Int) (hk : 0 ≤ k ∧ k ≤ 18446744073709551615) (a : Int) (ha : -9223372036854775808 ≤ a ∧ a ≤ 9223372036854775807) : Calls Try.prog 10 #[sv x, .int .u64 k, .int .i64 a] w (Ret (.bool true) w) := by
  obtain ⟨keep, rfl⟩ := Int.eq_ofNat_of_zero_le hk.1
  exact lies_walk h (Nat.le_refl _) (by omega) a
end Go.Proofs.Ytmcgfnfhpcddlaa

