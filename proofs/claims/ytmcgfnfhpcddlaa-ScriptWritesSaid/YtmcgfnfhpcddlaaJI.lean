/- What the law's act, first and cut return: acts made ones that may be; for all acts and scripts. -/
import Derived.Test.YtmcgfnfhpcddlaaJH
set_option linter.unusedVariables false
set_option linter.unusedSimpArgs false
/- What the law's act, first and cut return: acts made ones that may be; for all acts and scripts. -/
namespace Go.Proofs.Ytmcgfnfhpcddlaa
open Go.RowKit Go.BW

def ActPost (b : Act) (w : World) (e : Ending) (w' : World) : Prop := e = .returned (.agg (actC b).toArray) ∧ Nw w w'
theorem and_m (x : Int) (M : Int) (j : Nat) (hj : j ≤ 62) (hM : M = 2 ^ j - 1) (R : Int) (hR : (2 : Int) ^ j = R) : bits BinOp.and IntKind.i64 x M = x % R := by
  subst hM; rw [and_mask x j hj, hR]
set_option maxRecDepth 100000 in
set_option maxHeartbeats 8000000 in
theorem act_any {a : Act} (ho : a.s.length = 64) (w : World) : Calls Try.prog 34 #[.agg (actC a).toArray] w (ActPost (tameA a) w) := by
  have hbx : ActO (w.alloc (.cells (actC a).toArray 44)) w.heap.size a := Obj1.new w 44 (actC a).toArray
  have hg0 := World.grownBy_alloc w (.cells (actC a).toArray 44) none
  obtain ⟨V, hV⟩ : ∃ V, w.alloc (.cells (actC a).toArray 44) = V := ⟨_, rfl⟩
  obtain ⟨ga, hga⟩ : ∃ y, w.heap.size = y := ⟨_, rfl⟩
  rw [hV] at hbx hg0
  rw [hga] at hbx
  have hgw : w.heap.size ≤ ga := by omega
  have A0 := Lib.hid hbx; have N0 := Lib.hid hg0
  have hkk := A0.out.k
  have hl0 := A0.out.lt
  have m1 : bits BinOp.and IntKind.i64 a.k 65535 = a.k % 65536 := and_m _ _ 16 (by decide) (by decide) _ (by decide)
  obtain ⟨m, hm⟩ : ∃ m : Nat, a.k % 65536 = (m : Int) := ⟨(a.k % 65536).toNat, by omega⟩
  rw [hm] at m1
  obtain ⟨r, hr⟩ : ∃ r : Nat, (m : Int).tmod 10 = (r : Int) := ⟨m % 10, by rw [Int.tmod_eq_emod_of_nonneg (by omega)]; omega⟩
  have hr9 : r ≤ 9 := by rw [Int.tmod_eq_emod_of_nonneg (by omega)] at hr; omega
  have hK : 1 + a.k % 65536 % 10 = 1 + (r : Int) := by rw [hm]; rw [Int.tmod_eq_emod_of_nonneg (by omega)] at hr; omega
  obtain ⟨k, hk⟩ : ∃ k : Int, 1 + (r : Int) = k := ⟨_, rfl⟩
  have hk10 : 1 ≤ k ∧ k ≤ 10 := by omega
  rw [hk] at hK
  obtain ⟨b9, hB9⟩ : ∃ b9, tameA a = b9 := ⟨_, rfl⟩
  have hTA := hB9
  unfold tameA at hTA
  simp only [hK] at hTA
  unfold ActPost
  rw [hB9]
  have HTA := Lib.hid hTA
  clear hbx hg0 hB9 hK hTA hm hr9
  go_enter Try.func34, Try.ntmps34
  go_upto_region 2 with (first
    | ((with_reducible refine wpList_store44 _ _ (by with_unfolding_all exact rfl) (by with_unfolding_all exact rfl) (a0 k) (by with_unfolding_all exact rfl) (by with_unfolding_all exact rfl) X2.out ?_); intro w3 s3 g3)
    | ((with_reducible refine wpList_alloc44 (by with_unfolding_all exact rfl) (by with_unfolding_all exact rfl) ?_); intro gx w2 x2 n2 l2; have X2 := Lib.hid x2; have A2 := Lib.hid (A1.out.nw n2); have R2 := Lib.hid (R1.out.nw n2); have N2 := Lib.hid (gb_trans N1.out n2))
    | ((with_reducible refine wpList_build44 _ (by with_unfolding_all exact rfl) (by with_unfolding_all exact rfl) k (by with_unfolding_all exact rfl) ?_))
    | ((with_reducible refine wpList_alloc44 (by with_unfolding_all exact rfl) (by with_unfolding_all exact rfl) ?_); intro gr w1 x1 n1 l1; have R1 := Lib.hid x1; have A1 := Lib.hid (A0.out.nw n1); have N1 := Lib.hid (gb_trans N0.out n1); have hkk := A1.out.k))
  have hlr : gr < w1.heap.size := Obj1.lt R1.out
  have hla : ga < w1.heap.size := Obj1.lt A1.out
  have hxa : ga ≠ gx := by omega
  have hxr : gr ≠ gx := by omega
  have hgr : w.heap.size ≤ gr := by omega
  have hgx : w.heap.size ≤ gx := by omega
  have A3 := Lib.hid (A2.out.other g3 hxa); have R3 := Lib.hid (R2.out.other g3 hxr); have X3 := Lib.hid s3
  have N3 := Lib.hid (nw_of_gb N2.out g3 (fun q hq => by injection hq with hq; omega))
  clear x1 n1 l1 x2 n2 l2 s3 g3 A0 A1 A2 R1 R2 X2 N0 N1 N2 hV hga hlr hla hl0 m1 hr hk hkk
  have b127 : bits BinOp.and IntKind.i64 a.b 127 = a.b % 128 := and_m _ _ 7 (by decide) (by decide) _ (by decide)
  have n15 : bits BinOp.and IntKind.i64 a.n 15 = a.n % 16 := and_m _ _ 4 (by decide) (by decide) _ (by decide)
  have n8191 : bits BinOp.and IntKind.i64 a.n 8191 = a.n % 8192 := and_m _ _ 13 (by decide) (by decide) _ (by decide)
  have n255 : bits BinOp.and IntKind.i64 a.n 255 = a.n % 256 := and_m _ _ 8 (by decide) (by decide) _ (by decide)
  have n31 : bits BinOp.and IntKind.i64 a.n 31 = a.n % 32 := and_m _ _ 5 (by decide) (by decide) _ (by decide)
  have t31 : bits BinOp.and IntKind.i64 a.at' 31 = a.at' % 32 := and_m _ _ 5 (by decide) (by decide) _ (by decide)
  have hkx : w3.cell? ⟨gx, 0, none⟩ = some (.int .i64 k) := X3.out.k
  have hss : ∀ (g : Nat) (ww : World), ActO ww g a → ∀ j u, (a.s.map bv)[j]? = some u → ww.cell? ⟨g, 2 + j, none⟩ = some u := fun g ww h => by have := h.s; rwa [p64_of ho] at this
  have HSS := Lib.hid hss
  clear hss
  rcases (show k = 1 ∨ k = 2 ∨ k = 3 ∨ k = 4 ∨ k = 5 ∨ k = 6 ∨ k = 7 ∨ k = 8 ∨ k = 9 ∨ k = 10 by omega) with e | e | e | e | e | e | e | e | e | e
  · subst e
    have HB := Lib.hid (show b9 = ⟨1, a.b % 128, a.s, 0, 0, 0⟩ from HTA.out.symm)
    have hf3 := A3.out.b
    go_upto_region 5 with (first | ((with_reducible refine wpList_store_act 3 _ _ (by with_unfolding_all exact rfl) (by with_unfolding_all exact rfl) [.int .i64 (a.b % 128)] (by with_unfolding_all exact rfl) (by with_unfolding_all exact rfl) (by with_unfolding_all exact rfl) (by with_unfolding_all exact i3) (by with_unfolding_all exact one1 _ rfl) X3.out (by simp only [List.length_cons, List.length_nil]; omega) (st_b _ _) ?_); intro w4 s4 g4))
    have A4 := Lib.hid (A3.out.other g4 hxa); have R4 := Lib.hid (R3.out.other g4 hxr); have X4 := Lib.hid s4; have N4 := Lib.hid (nw_of_gb N3.out g4 (fun q hq => by injection hq with hq; omega))
    clear s4 g4 A3 R3 X3 N3 hkx
    go_upto_region 24 with (first | ((with_reducible refine wpList_store_act 33 _ _ (by with_unfolding_all exact rfl) (by with_unfolding_all exact rfl) (a.s.map bv) (by with_unfolding_all exact rfl) (by with_unfolding_all exact rfl) (by with_unfolding_all exact rfl) (i33' ho) (sec_one _) X4.out (by rw [List.length_map, ho]; decide) (set_s _ _ ho) ?_); intro w5 s5 g5) | ((with_reducible refine wpList_load_agg 33 _ (by with_unfolding_all exact rfl) (by with_unfolding_all exact rfl) (by with_unfolding_all exact rfl) (a.s.map bv) (HSS.out _ _ A4.out) _ Try.underlying33 (by with_unfolding_all exact rfl) (i33' ho) ?_)))
    have A5 := Lib.hid (A4.out.other g5 hxa); have R5 := Lib.hid (R4.out.other g5 hxr); have X5 := Lib.hid s5; have N5 := Lib.hid (nw_of_gb N4.out g5 (fun q hq => by injection hq with hq; omega))
    clear s5 g5 A4 R4 X4 N4
    have R9 := R5; have X9 := X5; have N9 := N5
    clear A5 R5 X5 N5
    go_wp2_with (first | ((with_reducible refine wpList_store44 _ _ (by with_unfolding_all exact rfl) (by with_unfolding_all exact rfl) _ (by with_unfolding_all exact rfl) (by with_unfolding_all exact rfl) R9.out ?_); intro w10 s10 g10) | ((with_reducible refine wpList_load44 _ (by with_unfolding_all exact rfl) (by with_unfolding_all exact rfl) (by with_unfolding_all exact rfl) X9.out ?_)))
    (refine bodyPost_ret (res_cell rfl _ _ _ 44 _ _ rfl s10 Try.underlying44 rfl (i44a _)) rfl ?_)
    exact ⟨by have h := HB.out; subst h; rfl, nw_of_gb N9.out g10 (fun q hq => by injection hq with hq; omega)⟩
  · subst e
    have HB := Lib.hid (show b9 = ⟨2, a.b % 128, z64, 0, 0, 0⟩ from HTA.out.symm)
    have hf3 := A3.out.b
    go_upto_region 24 with (first | ((with_reducible refine wpList_store_act 3 _ _ (by with_unfolding_all exact rfl) (by with_unfolding_all exact rfl) [.int .i64 (a.b % 128)] (by with_unfolding_all exact rfl) (by with_unfolding_all exact rfl) (by with_unfolding_all exact rfl) (by with_unfolding_all exact i3) (by with_unfolding_all exact one1 _ rfl) X3.out (by simp only [List.length_cons, List.length_nil]; omega) (st_b _ _) ?_); intro w4 s4 g4))
    have A4 := Lib.hid (A3.out.other g4 hxa); have R4 := Lib.hid (R3.out.other g4 hxr); have X4 := Lib.hid s4; have N4 := Lib.hid (nw_of_gb N3.out g4 (fun q hq => by injection hq with hq; omega))
    clear s4 g4 A3 R3 X3 N3 hkx
    have R9 := R4; have X9 := X4; have N9 := N4
    clear A4 R4 X4 N4
    go_wp2_with (first | ((with_reducible refine wpList_store44 _ _ (by with_unfolding_all exact rfl) (by with_unfolding_all exact rfl) _ (by with_unfolding_all exact rfl) (by with_unfolding_all exact rfl) R9.out ?_); intro w10 s10 g10) | ((with_reducible refine wpList_load44 _ (by with_unfolding_all exact rfl) (by with_unfolding_all exact rfl) (by with_unfolding_all exact rfl) X9.out ?_)))
    (refine bodyPost_ret (res_cell rfl _ _ _ 44 _ _ rfl s10 Try.underlying44 rfl (i44a _)) rfl ?_)
    exact ⟨by have h := HB.out; subst h; rfl, nw_of_gb N9.out g10 (fun q hq => by injection hq with hq; omega)⟩
  · subst e
    have HB := Lib.hid (show b9 = a0 3 from HTA.out.symm)
    have R9 := R3; have X9 := X3; have N9 := N3
    clear A3 R3 X3 N3
    go_wp2_with (first | ((with_reducible refine wpList_store44 _ _ (by with_unfolding_all exact rfl) (by with_unfolding_all exact rfl) _ (by with_unfolding_all exact rfl) (by with_unfolding_all exact rfl) R9.out ?_); intro w10 s10 g10) | ((with_reducible refine wpList_load44 _ (by with_unfolding_all exact rfl) (by with_unfolding_all exact rfl) (by with_unfolding_all exact rfl) X9.out ?_)))
    (refine bodyPost_ret (res_cell rfl _ _ _ 44 _ _ rfl s10 Try.underlying44 rfl (i44a _)) rfl ?_)
    exact ⟨by have h := HB.out; subst h; rfl, nw_of_gb N9.out g10 (fun q hq => by injection hq with hq; omega)⟩
  · subst e
    have HB := Lib.hid (show b9 = ⟨4, 0, z64, a.n % 16, 0, 0⟩ from HTA.out.symm)
    have hf3 := A3.out.n
    go_upto_region 24 with (first | ((with_reducible refine wpList_store_act 3 _ _ (by with_unfolding_all exact rfl) (by with_unfolding_all exact rfl) [.int .i64 (a.n % 16)] (by with_unfolding_all exact rfl) (by with_unfolding_all exact rfl) (by with_unfolding_all exact rfl) (by with_unfolding_all exact i3) (by with_unfolding_all exact one1 _ rfl) X3.out (by simp only [List.length_cons, List.length_nil]; omega) (st_n _ _) ?_); intro w4 s4 g4))
    have A4 := Lib.hid (A3.out.other g4 hxa); have R4 := Lib.hid (R3.out.other g4 hxr); have X4 := Lib.hid s4; have N4 := Lib.hid (nw_of_gb N3.out g4 (fun q hq => by injection hq with hq; omega))
    clear s4 g4 A3 R3 X3 N3 hkx
    have R9 := R4; have X9 := X4; have N9 := N4
    clear A4 R4 X4 N4
    go_wp2_with (first | ((with_reducible refine wpList_store44 _ _ (by with_unfolding_all exact rfl) (by with_unfolding_all exact rfl) _ (by with_unfolding_all exact rfl) (by with_unfolding_all exact rfl) R9.out ?_); intro w10 s10 g10) | ((with_reducible refine wpList_load44 _ (by with_unfolding_all exact rfl) (by with_unfolding_all exact rfl) (by with_unfolding_all exact rfl) X9.out ?_)))
    (refine bodyPost_ret (res_cell rfl _ _ _ 44 _ _ rfl s10 Try.underlying44 rfl (i44a _)) rfl ?_)
    exact ⟨by have h := HB.out; subst h; rfl, nw_of_gb N9.out g10 (fun q hq => by injection hq with hq; omega)⟩
  · subst e
    have HB := Lib.hid (show b9 = ⟨5, 0, z64, a.n % 8192, 0, 0⟩ from HTA.out.symm)
    have hf3 := A3.out.n
    go_upto_region 24 with (first | ((with_reducible refine wpList_store_act 3 _ _ (by with_unfolding_all exact rfl) (by with_unfolding_all exact rfl) [.int .i64 (a.n % 8192)] (by with_unfolding_all exact rfl) (by with_unfolding_all exact rfl) (by with_unfolding_all exact rfl) (by with_unfolding_all exact i3) (by with_unfolding_all exact one1 _ rfl) X3.out (by simp only [List.length_cons, List.length_nil]; omega) (st_n _ _) ?_); intro w4 s4 g4))
    have A4 := Lib.hid (A3.out.other g4 hxa); have R4 := Lib.hid (R3.out.other g4 hxr); have X4 := Lib.hid s4; have N4 := Lib.hid (nw_of_gb N3.out g4 (fun q hq => by injection hq with hq; omega))
    clear s4 g4 A3 R3 X3 N3 hkx
    have R9 := R4; have X9 := X4; have N9 := N4
    clear A4 R4 X4 N4
    go_wp2_with (first | ((with_reducible refine wpList_store44 _ _ (by with_unfolding_all exact rfl) (by with_unfolding_all exact rfl) _ (by with_unfolding_all exact rfl) (by with_unfolding_all exact rfl) R9.out ?_); intro w10 s10 g10) | ((with_reducible refine wpList_load44 _ (by with_unfolding_all exact rfl) (by with_unfolding_all exact rfl) (by with_unfolding_all exact rfl) X9.out ?_)))
    (refine bodyPost_ret (res_cell rfl _ _ _ 44 _ _ rfl s10 Try.underlying44 rfl (i44a _)) rfl ?_)
    exact ⟨by have h := HB.out; subst h; rfl, nw_of_gb N9.out g10 (fun q hq => by injection hq with hq; omega)⟩
  · subst e
    have HB := Lib.hid (show b9 = ⟨6, 0, z64, a.n % 256, 0, 0⟩ from HTA.out.symm)
    have hf3 := A3.out.n
    go_upto_region 24 with (first | ((with_reducible refine wpList_store_act 3 _ _ (by with_unfolding_all exact rfl) (by with_unfolding_all exact rfl) [.int .i64 (a.n % 256)] (by with_unfolding_all exact rfl) (by with_unfolding_all exact rfl) (by with_unfolding_all exact rfl) (by with_unfolding_all exact i3) (by with_unfolding_all exact one1 _ rfl) X3.out (by simp only [List.length_cons, List.length_nil]; omega) (st_n _ _) ?_); intro w4 s4 g4))
    have A4 := Lib.hid (A3.out.other g4 hxa); have R4 := Lib.hid (R3.out.other g4 hxr); have X4 := Lib.hid s4; have N4 := Lib.hid (nw_of_gb N3.out g4 (fun q hq => by injection hq with hq; omega))
    clear s4 g4 A3 R3 X3 N3 hkx
    have R9 := R4; have X9 := X4; have N9 := N4
    clear A4 R4 X4 N4
    go_wp2_with (first | ((with_reducible refine wpList_store44 _ _ (by with_unfolding_all exact rfl) (by with_unfolding_all exact rfl) _ (by with_unfolding_all exact rfl) (by with_unfolding_all exact rfl) R9.out ?_); intro w10 s10 g10) | ((with_reducible refine wpList_load44 _ (by with_unfolding_all exact rfl) (by with_unfolding_all exact rfl) (by with_unfolding_all exact rfl) X9.out ?_)))
    (refine bodyPost_ret (res_cell rfl _ _ _ 44 _ _ rfl s10 Try.underlying44 rfl (i44a _)) rfl ?_)
    exact ⟨by have h := HB.out; subst h; rfl, nw_of_gb N9.out g10 (fun q hq => by injection hq with hq; omega)⟩
  · subst e
    have HB := Lib.hid (show b9 = ⟨7, 0, z64, a.n % 32, 0, a.m⟩ from HTA.out.symm)
    have hf3 := A3.out.n
    go_upto_region 16 with (first | ((with_reducible refine wpList_store_act 3 _ _ (by with_unfolding_all exact rfl) (by with_unfolding_all exact rfl) [.int .i64 (a.n % 32)] (by with_unfolding_all exact rfl) (by with_unfolding_all exact rfl) (by with_unfolding_all exact rfl) (by with_unfolding_all exact i3) (by with_unfolding_all exact one1 _ rfl) X3.out (by simp only [List.length_cons, List.length_nil]; omega) (st_n _ _) ?_); intro w4 s4 g4))
    have A4 := Lib.hid (A3.out.other g4 hxa); have R4 := Lib.hid (R3.out.other g4 hxr); have X4 := Lib.hid s4; have N4 := Lib.hid (nw_of_gb N3.out g4 (fun q hq => by injection hq with hq; omega))
    clear s4 g4 A3 R3 X3 N3 hkx
    have hf4 := A4.out.m
    go_upto_region 24 with (first | ((with_reducible refine wpList_store_act 31 _ _ (by with_unfolding_all exact rfl) (by with_unfolding_all exact rfl) [.int .u64 (a.m : Int)] (by with_unfolding_all exact rfl) (by with_unfolding_all exact rfl) (by with_unfolding_all exact rfl) (by with_unfolding_all exact i31) (by with_unfolding_all exact one1 _ rfl) X4.out (by simp only [List.length_cons, List.length_nil]; omega) (st_m _ _) ?_); intro w5 s5 g5))
    have A5 := Lib.hid (A4.out.other g5 hxa); have R5 := Lib.hid (R4.out.other g5 hxr); have X5 := Lib.hid s5; have N5 := Lib.hid (nw_of_gb N4.out g5 (fun q hq => by injection hq with hq; omega))
    clear s5 g5 A4 R4 X4 N4
    have R9 := R5; have X9 := X5; have N9 := N5
    clear A5 R5 X5 N5
    go_wp2_with (first | ((with_reducible refine wpList_store44 _ _ (by with_unfolding_all exact rfl) (by with_unfolding_all exact rfl) _ (by with_unfolding_all exact rfl) (by with_unfolding_all exact rfl) R9.out ?_); intro w10 s10 g10) | ((with_reducible refine wpList_load44 _ (by with_unfolding_all exact rfl) (by with_unfolding_all exact rfl) (by with_unfolding_all exact rfl) X9.out ?_)))
    (refine bodyPost_ret (res_cell rfl _ _ _ 44 _ _ rfl s10 Try.underlying44 rfl (i44a _)) rfl ?_)
    exact ⟨by have h := HB.out; subst h; rfl, nw_of_gb N9.out g10 (fun q hq => by injection hq with hq; omega)⟩
  · subst e
    have HB := Lib.hid (show b9 = ⟨8, 0, z64, a.n % 32, a.at' % 32, a.m⟩ from HTA.out.symm)
    have hf3 := A3.out.t
    go_upto_region 19 with (first | ((with_reducible refine wpList_store_act 3 _ _ (by with_unfolding_all exact rfl) (by with_unfolding_all exact rfl) [.int .i64 (a.at' % 32)] (by with_unfolding_all exact rfl) (by with_unfolding_all exact rfl) (by with_unfolding_all exact rfl) (by with_unfolding_all exact i3) (by with_unfolding_all exact one1 _ rfl) X3.out (by simp only [List.length_cons, List.length_nil]; omega) (st_t _ _) ?_); intro w4 s4 g4))
    have A4 := Lib.hid (A3.out.other g4 hxa); have R4 := Lib.hid (R3.out.other g4 hxr); have X4 := Lib.hid s4; have N4 := Lib.hid (nw_of_gb N3.out g4 (fun q hq => by injection hq with hq; omega))
    clear s4 g4 A3 R3 X3 N3 hkx
    have hf4 := A4.out.n
    go_upto_region 20 with (first | ((with_reducible refine wpList_store_act 3 _ _ (by with_unfolding_all exact rfl) (by with_unfolding_all exact rfl) [.int .i64 (a.n % 32)] (by with_unfolding_all exact rfl) (by with_unfolding_all exact rfl) (by with_unfolding_all exact rfl) (by with_unfolding_all exact i3) (by with_unfolding_all exact one1 _ rfl) X4.out (by simp only [List.length_cons, List.length_nil]; omega) (st_n _ _) ?_); intro w5 s5 g5))
    have A5 := Lib.hid (A4.out.other g5 hxa); have R5 := Lib.hid (R4.out.other g5 hxr); have X5 := Lib.hid s5; have N5 := Lib.hid (nw_of_gb N4.out g5 (fun q hq => by injection hq with hq; omega))
    clear s5 g5 A4 R4 X4 N4
    have hf5 := A5.out.m
    go_upto_region 24 with (first | ((with_reducible refine wpList_store_act 31 _ _ (by with_unfolding_all exact rfl) (by with_unfolding_all exact rfl) [.int .u64 (a.m : Int)] (by with_unfolding_all exact rfl) (by with_unfolding_all exact rfl) (by with_unfolding_all exact rfl) (by with_unfolding_all exact i31) (by with_unfolding_all exact one1 _ rfl) X5.out (by simp only [List.length_cons, List.length_nil]; omega) (st_m _ _) ?_); intro w6 s6 g6))
    have A6 := Lib.hid (A5.out.other g6 hxa); have R6 := Lib.hid (R5.out.other g6 hxr); have X6 := Lib.hid s6; have N6 := Lib.hid (nw_of_gb N5.out g6 (fun q hq => by injection hq with hq; omega))
    clear s6 g6 A5 R5 X5 N5
    have R9 := R6; have X9 := X6; have N9 := N6
    clear A6 R6 X6 N6
    go_wp2_with (first | ((with_reducible refine wpList_store44 _ _ (by with_unfolding_all exact rfl) (by with_unfolding_all exact rfl) _ (by with_unfolding_all exact rfl) (by with_unfolding_all exact rfl) R9.out ?_); intro w10 s10 g10) | ((with_reducible refine wpList_load44 _ (by with_unfolding_all exact rfl) (by with_unfolding_all exact rfl) (by with_unfolding_all exact rfl) X9.out ?_)))
    (refine bodyPost_ret (res_cell rfl _ _ _ 44 _ _ rfl s10 Try.underlying44 rfl (i44a _)) rfl ?_)
    exact ⟨by have h := HB.out; subst h; rfl, nw_of_gb N9.out g10 (fun q hq => by injection hq with hq; omega)⟩
  · subst e
    have HB := Lib.hid (show b9 = ⟨9, 0, z64, a.n % 256, a.at' % 32, 0⟩ from HTA.out.symm)
    have hf3 := A3.out.n
    go_upto_region 23 with (first | ((with_reducible refine wpList_store_act 3 _ _ (by with_unfolding_all exact rfl) (by with_unfolding_all exact rfl) [.int .i64 (a.n % 256)] (by with_unfolding_all exact rfl) (by with_unfolding_all exact rfl) (by with_unfolding_all exact rfl) (by with_unfolding_all exact i3) (by with_unfolding_all exact one1 _ rfl) X3.out (by simp only [List.length_cons, List.length_nil]; omega) (st_n _ _) ?_); intro w4 s4 g4))
    have A4 := Lib.hid (A3.out.other g4 hxa); have R4 := Lib.hid (R3.out.other g4 hxr); have X4 := Lib.hid s4; have N4 := Lib.hid (nw_of_gb N3.out g4 (fun q hq => by injection hq with hq; omega))
    clear s4 g4 A3 R3 X3 N3 hkx
    have hf4 := A4.out.t
    go_upto_region 24 with (first | ((with_reducible refine wpList_store_act 3 _ _ (by with_unfolding_all exact rfl) (by with_unfolding_all exact rfl) [.int .i64 (a.at' % 32)] (by with_unfolding_all exact rfl) (by with_unfolding_all exact rfl) (by with_unfolding_all exact rfl) (by with_unfolding_all exact i3) (by with_unfolding_all exact one1 _ rfl) X4.out (by simp only [List.length_cons, List.length_nil]; omega) (st_t _ _) ?_); intro w5 s5 g5))
    have A5 := Lib.hid (A4.out.other g5 hxa); have R5 := Lib.hid (R4.out.other g5 hxr); have X5 := Lib.hid s5; have N5 := Lib.hid (nw_of_gb N4.out g5 (fun q hq => by injection hq with hq; omega))
    clear s5 g5 A4 R4 X4 N4
    have R9 := R5; have X9 := X5; have N9 := N5
    clear A5 R5 X5 N5
    go_wp2_with (first | ((with_reducible refine wpList_store44 _ _ (by with_unfolding_all exact rfl) (by with_unfolding_all exact rfl) _ (by with_unfolding_all exact rfl) (by with_unfolding_all exact rfl) R9.out ?_); intro w10 s10 g10) | ((with_reducible refine wpList_load44 _ (by with_unfolding_all exact rfl) (by with_unfolding_all exact rfl) (by with_unfolding_all exact rfl) X9.out ?_)))
    (refine bodyPost_ret (res_cell rfl _ _ _ 44 _ _ rfl s10 Try.underlying44 rfl (i44a _)) rfl ?_)
    exact ⟨by have h := HB.out; subst h; rfl, nw_of_gb N9.out g10 (fun q hq => by injection hq with hq; omega)⟩
  · subst e
    have HB := Lib.hid (show b9 = a0 10 from HTA.out.symm)
    have R9 := R3; have X9 := X3; have N9 := N3
    clear A3 R3 X3 N3
    go_wp2_with (first | ((with_reducible refine wpList_store44 _ _ (by with_unfolding_all exact rfl) (by with_unfolding_all exact rfl) _ (by with_unfolding_all exact rfl) (by with_unfolding_all exact rfl) R9.out ?_); intro w10 s10 g10) | ((with_reducible refine wpList_load44 _ (by with_unfolding_all exact rfl) (by with_unfolding_all exact rfl) (by with_unfolding_all exact rfl) X9.out ?_)))
    (refine bodyPost_ret (res_cell rfl _ _ _ 44 _ _ rfl s10 Try.underlying44 rfl (i44a _)) rfl ?_)
    exact ⟨by have h := HB.out; subst h; rfl, nw_of_gb N9.out g10 (fun q hq => by injection hq with hq; omega)⟩
def FirstS (w : World) (e : Ending) (w' : World) : Prop := ∃ Lz cz La ca, e = .returned (.agg #[.int .i64 1, .slice Lz 3 cz, .int .i64 2, .slice La 1 ca]) ∧ Own w' w.heap.size 3 1 Lz 3 cz ([160, 160, 160].map iv) ∧ Own w' w.heap.size 44 69 La 1 ca (fl actC [a0 3]) ∧ Nw w w'
set_option maxHeartbeats 4000000 in
theorem first_any (w : World) : Calls Try.prog 25 #[] w (FirstS w) := by
  go_enter Try.func25, Try.ntmps25
  have ob := obj_fst w 25 #[.int .i64 0, .slice Option.none 0 0, .int .i64 0, .slice Option.none 0 0] (.cells #[.int .i64 160, .int .i64 160, .int .i64 160] 3)
  have oz := obj_snd w (.cells #[.int .i64 0, .slice Option.none 0 0, .int .i64 0, .slice Option.none 0 0] 25) 3 #[.int .i64 160, .int .i64 160, .int .i64 160]
  have g2 := gb_trans (World.grownBy_alloc w (.cells #[.int .i64 0, .slice Option.none 0 0, .int .i64 0, .slice Option.none 0 0] 25) none) (World.grownBy_alloc _ (.cells #[.int .i64 160, .int .i64 160, .int .i64 160] 3) none)
  obtain ⟨V, hV⟩ : ∃ V, (w.alloc (.cells #[.int .i64 0, .slice Option.none 0 0, .int .i64 0, .slice Option.none 0 0] 25)).alloc (.cells #[.int .i64 160, .int .i64 160, .int .i64 160] 3) = V := ⟨_, rfl⟩
  rw [hV] at ob oz g2
  have gA := World.grownBy_alloc V (.cells (actC (a0 3)).toArray 44) none
  have oA := Obj1.new V 44 (actC (a0 3)).toArray
  have HO := Lib.hid (ob.nw gA); have HZ := Lib.hid (oz.nw gA); have HA := Lib.hid oA; have HN := Lib.hid (gb_trans g2 gA)
  have hgs := g2.size
  clear ob oz g2 gA oA
  go_wp2_with (first
    | ((with_reducible refine wpList_store_obj 25 _ _ (by with_unfolding_all exact rfl) (by with_unfolding_all exact rfl) [.int .i64 1, .slice (some ⟨w.heap.size + 1, 0, none⟩) 3 3, .int .i64 2, .slice (some ⟨V.heap.size, 0, none⟩) 1 1] (by with_unfolding_all exact rfl) (by with_unfolding_all exact rfl) (by with_unfolding_all exact rfl) (by kernel_rfl) (sc_one _ _ _ _ _ _ _ _) HO.out (by with_unfolding_all exact rfl) ?_); intro w5 s5 g5)
    | ((with_reducible refine wpList_buildSlice1 T23 _ (by with_unfolding_all exact rfl) (by with_unfolding_all exact rfl) (v := .agg (actC (a0 3)).toArray) (by with_unfolding_all exact rfl) (actCs _) (by decide) ?_))
    | ((with_reducible refine wpList_build44 _ (by with_unfolding_all exact rfl) (by with_unfolding_all exact rfl) 3 (by with_unfolding_all exact rfl) ?_)))
  refine bodyPost_ret (res_cell rfl _ _ _ 25 _ _ rfl s5 Try.underlying25 rfl (by kernel_rfl)) rfl ?_
  have z1 := (HZ.out.ownN (size := 1) (n := 3) (base := w.heap.size) rfl (by omega) (by unfold maxLen; decide))
  have a1 := (HA.out.ownN (size := 69) (n := 1) (base := w.heap.size) (by rw [List.size_toArray, actC_len]) (by omega) (by unfold maxLen; decide))
  exact ⟨_, _, _, _, rfl, own_keep25 z1 HO.out g5, by rw [fl_one]; exact own_keep25 a1 HO.out g5, nw_of_gb HN.out g5 (fun q hq => by injection hq with hq; omega)⟩
end Go.Proofs.Ytmcgfnfhpcddlaa


/- What the law's cut returns, for all scripts. -/
namespace Go.Proofs.Ytmcgfnfhpcddlaa
open Go.RowKit Go.BW

theorem cut_len (n M : Nat) : ∃ k : Nat, (if (M : Int) < (n : Int) then (M : Int) else n) = (k : Int) ∧ k = min n M := by
  refine ⟨min n M, ?_, rfl⟩
  split <;> omega
theorem take_min {α : Type} (l : List α) {n k M : Nat} (hl : l.length = n) (hk : k = min n M) : l.take k = l.take M := by
  rcases Nat.le_total n M with h | h
  · rw [List.take_of_length_le (by omega), List.take_of_length_le (by omega)]
  · rw [show k = M by omega]
theorem ints_one (l : List Int) : ∀ u ∈ l.map iv, u.oneCell' = true := by
  intro u hu; obtain ⟨x, _, rfl⟩ := List.mem_map.1 hu; rfl
theorem acts_one (l : List Act) : ∀ u ∈ fl actC l, u.oneCell' = true := by
  intro u hu
  unfold fl at hu
  rw [List.mem_flatten] at hu
  obtain ⟨cs, hcs, hu⟩ := hu
  obtain ⟨a, _, rfl⟩ := List.mem_map.1 hcs
  exact actC_one a u hu
def ScPost (s : Scr) (w : World) (e : Ending) (w' : World) : Prop :=
  ∃ (A D : Option Addr) (n c m d : Nat), e = .returned (.agg #[.int .i64 s.num, .slice A n c, .int .i64 s.bl, .slice D m d]) ∧ Own w' w.heap.size 3 1 A n c (s.sz.map iv) ∧ Own w' w.heap.size 44 69 D m d (fl actC s.acts) ∧ Nw w w'
set_option maxRecDepth 100000 in
set_option maxHeartbeats 8000000 in
theorem cut_any {w : World} {B : Nat} {x : Sc} (h : SOk w B x) (hB : B ≤ w.heap.size) : Calls Try.prog 13 #[sv x] w (ScPost (cutS (scr x)) w) := by
  have hzl := h.zl; have hal := h.al
  obtain ⟨k, hk, hkm⟩ := cut_len x.n 15
  obtain ⟨j, hj, hjm⟩ := cut_len x.m 125
  have HK := Lib.hid (show (if (15 : Int) < (x.n : Int) then (15 : Int) else (x.n : Int)) = (k : Int) from hk)
  have HJ := Lib.hid (show (if (125 : Int) < (x.m : Int) then (125 : Int) else (x.m : Int)) = (j : Int) from hj)
  have hz := h.z.take (k := k) (by omega)
  have ha := h.a.takeL actC_len (k := j) (by omega)
  rw [Nat.mul_one, ← List.map_take, take_min _ hzl hkm] at hz
  rw [take_min _ hal hjm] at ha
  have hkc : k ≤ x.c := by have := h.zc; omega
  have hjc : j ≤ x.d := by have := h.ac; omega
  have hk15 : k ≤ 15 := by omega
  have hj125 : j ≤ 125 := by omega
  have HZ := Lib.hid hz; have HA := Lib.hid ha
  have o1z := ints_one (x.sz.take 15); have o1a := acts_one (x.acts.take 125)
  unfold ScPost cutS scr sv
  obtain ⟨num, A, n, c, sz, bl, D, m, d, acts⟩ := x
  simp only at HK HJ HZ HA hkc hjc o1z o1a ⊢
  generalize sz.take 15 = sz' at *
  generalize acts.take 125 = acts' at *
  have b1 := obj_fst w 25 #[.int .i64 num, .slice A n c, .int .i64 bl, .slice D m d] (.cells #[.int .i64 0, .slice Option.none 0 0, .int .i64 0, .slice Option.none 0 0] 25)
  have b2 := obj_snd w (.cells #[.int .i64 num, .slice A n c, .int .i64 bl, .slice D m d] 25) 25 #[.int .i64 0, .slice Option.none 0 0, .int .i64 0, .slice Option.none 0 0]
  have g2 := gb_trans (World.grownBy_alloc w (.cells #[.int .i64 num, .slice A n c, .int .i64 bl, .slice D m d] 25) none) (World.grownBy_alloc _ (.cells #[.int .i64 0, .slice Option.none 0 0, .int .i64 0, .slice Option.none 0 0] 25) none)
  clear hz ha hk hj hkm hjm h hzl hal
  go_enter Try.func13, Try.ntmps13
  go_upto_region 1 with fail
  obtain ⟨V, hV⟩ : ∃ V, (w.alloc (.cells #[.int .i64 num, .slice A n c, .int .i64 bl, .slice D m d] 25)).alloc (.cells #[.int .i64 0, .slice Option.none 0 0, .int .i64 0, .slice Option.none 0 0] 25) = V := ⟨_, rfl⟩
  rw [hV] at b1 b2 g2
  rw [hV]
  obtain ⟨y, hy⟩ : ∃ y, w.heap.size = y := ⟨_, rfl⟩
  rw [hy] at b1 b2 ⊢
  obtain ⟨z, hz⟩ : ∃ z, y + 1 = z := ⟨_, rfl⟩
  rw [hz] at b2
  rw [hz]
  have hyz : y ≠ z := by omega
  have hwy : w.heap.size ≤ y := by omega
  have hwz : w.heap.size ≤ z := by omega
  have B1 := Lib.hid b1; have B2 := Lib.hid b2; have N2 := Lib.hid g2
  have gE := World.grownBy_alloc V (.cells #[] 3) none
  have c1 := (b1.nw gE).cell 1
  clear b1 b2 g2 hV hz gE
  go_upto_region 2 with (first
    | ((with_reducible refine wpList_store_obj' 22 _ _ (by with_unfolding_all exact rfl) (by with_unfolding_all exact rfl) (i := 1) (.slice A3 k c3) (by with_unfolding_all exact rfl) (by with_unfolding_all exact rfl) (by kernel_rfl) (by with_unfolding_all exact rfl) P3.out (by with_unfolding_all exact rfl) (by with_unfolding_all exact rfl) ?_); intro w4 s4 g4)
    | (at_builtin; refine wpList_app_lit T22 _ _ rfl rfl w.heap.size rfl rfl (HZ.out.nw N2.out hB) (Nat.le_trans hB N2.out.size) o1z (by unfold maxLen; omega) N2.out.size ?_; intro A3 c3 w3 o3 n3; have P3 := Lib.hid (B1.out.nw n3); have Q3 := Lib.hid (B2.out.nw n3); have N3 := Lib.hid (gb_trans N2.out n3); have O3 := Lib.hid o3)
    | (refine wpList_slice_hi 22 3 Try.underlying22 (size := 1) (by kernel_rfl) _ _ rfl rfl A n c k rfl rfl hkc ?_)
    | (refine wpList_min_int _ _ _ rfl rfl (n : Int) 15 rfl rfl HK.out ?_))
  have B4 := Lib.hid (show Obj1 w4 y 25 #[.int .i64 num, .slice A3 k c3, .int .i64 bl, .slice D m d] from s4)
  have Q4 := Lib.hid (Obj1.kept'' Q3.out g4 (fun r hr => by injection hr with hr; omega))
  have N4 := Lib.hid (nw_of_gb N3.out g4 (fun q hq => by injection hq with hq; omega))
  have O4 := Lib.hid (own_keep25 O3.out P3.out g4)
  have gE := World.grownBy_alloc w4 (.cells #[] 44) none
  have c3' := (B4.out.nw gE).cell 3
  clear s4 g4 P3 Q3 N3 O3 o3 n3 c1 gE
  go_upto_region 3 with (first
    | ((with_reducible refine wpList_store_obj' 23 _ _ (by with_unfolding_all exact rfl) (by with_unfolding_all exact rfl) (i := 3) (.slice A5 j c5) (by with_unfolding_all exact rfl) (by with_unfolding_all exact rfl) (by kernel_rfl) (by with_unfolding_all exact rfl) P5.out (by with_unfolding_all exact rfl) (by with_unfolding_all exact rfl) ?_); intro w6 s6 g6)
    | (at_builtin; refine wpList_app_lit T23 _ _ rfl rfl w.heap.size rfl rfl (HA.out.nw N4.out hB) (Nat.le_trans hB N4.out.size) o1a (by unfold maxLen; omega) N4.out.size ?_; intro A5 c5 w5 o5 n5; have P5 := Lib.hid (B4.out.nw n5); have Q5 := Lib.hid (Q4.out.nw n5); have N5 := Lib.hid (gb_trans N4.out n5); have O5 := Lib.hid o5; have Z5 := Lib.hid (O4.out.nw n5))
    | (refine wpList_slice_hi 23 44 Try.underlying23 (size := 69) (by kernel_rfl) _ _ rfl rfl D m d j rfl rfl hjc ?_)
    | (refine wpList_min_int _ _ _ rfl rfl (m : Int) 125 rfl rfl HJ.out ?_))
  have B6 := Lib.hid (show Obj1 w6 y 25 #[.int .i64 num, .slice A3 k c3, .int .i64 bl, .slice A5 j c5] from s6)
  have Q6 := Lib.hid (Obj1.kept'' Q5.out g6 (fun r hr => by injection hr with hr; omega))
  have N6 := Lib.hid (nw_of_gb N5.out g6 (fun q hq => by injection hq with hq; omega))
  have Z6 := Lib.hid (own_keep25 Z5.out P5.out g6); have O6 := Lib.hid (own_keep25 O5.out P5.out g6)
  clear s6 g6 P5 Q5 N5 O5 Z5 o5 n5 c3'
  go_wp2_with (first
    | ((with_reducible refine wpList_store_obj 25 _ _ (by with_unfolding_all exact rfl) (by with_unfolding_all exact rfl) [.int .i64 num, .slice A3 k c3, .int .i64 bl, .slice A5 j c5] (by with_unfolding_all exact rfl) (by with_unfolding_all exact rfl) (by with_unfolding_all exact rfl) (by kernel_rfl) (sc_one _ _ _ _ _ _ _ _) Q6.out (by with_unfolding_all exact rfl) ?_); intro w7 s7 g7)
    | ((with_reducible refine wpList_load_obj 25 _ (by with_unfolding_all exact rfl) (by with_unfolding_all exact rfl) (by with_unfolding_all exact rfl) B6.out _ Try.underlying25 (by with_unfolding_all exact rfl) (by kernel_rfl) ?_)))
  refine bodyPost_ret (res_cell rfl _ _ _ 25 _ _ rfl s7 Try.underlying25 rfl (by kernel_rfl)) rfl ?_
  exact ⟨_, _, _, _, _, _, rfl, own_keep25 Z6.out Q6.out g7, own_keep25 O6.out Q6.out g7, nw_of_gb N6.out g7 (fun q hq => by injection hq with hq; omega)⟩
end Go.Proofs.Ytmcgfnfhpcddlaa

