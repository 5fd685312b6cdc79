/- What the law's tame returns, for all scripts. -/
import Derived.Test.YtmcgfnfhpcddlaaJI
set_option linter.unusedVariables false
set_option linter.unusedSimpArgs false
namespace Go.Proofs.Ytmcgfnfhpcddlaa
open Go.RowKit Go.BW

theorem own_pre {w : World} {b s n c k : Nat} {t : TypeId} {A : Option Addr} {xs : List Value} (h : Own w b t s A n c xs) (hk : k ≤ n) : Own w b t s A k c (xs.take (k * s)) := by
  rcases h.2 with ⟨hv, h0⟩ | ⟨g, cap, cur, hv, hrest⟩
  · injection hv with h1 h2 h3
    have : k = 0 := by omega
    subst this; subst h1; subst h3
    rw [Nat.zero_mul, List.take_zero]
    exact Own.nil
  · injection hv with h1 h2 h3
    subst h1
    exact h.front' hk
theorem own_apart' {w : World} {b b' s s' n n' c c' : Nat} {t t' : TypeId} {A A' : Option Addr} {xs xs' : List Value} (h : Own w b t s A n c xs) (h' : Own w b' t' s' A' n' c' xs') (ht : t' ≠ t) :
    ∀ r, (Value.slice A n c).ownBlock = some r → (Value.slice A' n' c').ownBlock ≠ some r := by
  intro r hr he
  obtain ⟨_, q1⟩ := h.rowObj _ hr
  obtain ⟨_, q2⟩ := h'.rowObj _ he
  exact q2.ne q1 ht rfl
def lenAt (y i : Nat) (w : World) : Nat := match w.cell? ⟨y, i, Option.none⟩ with | some (.slice _ n _) => n | _ => 0
def T1 (w : World) (y z k : Nat) (N bl' : Int) (D2 : Option Addr) (m2 d2 : Nat) (ssz : List Int) (sacts : List Act) (wr : World) : Prop :=
  ∃ (t L c' : Nat) (A' : Option Addr), L = k + t ∧ (k + t ≤ 3 ∨ t = 0) ∧ Obj1 wr y 25 #[.int .i64 N, .slice A' L c', .int .i64 bl', .slice D2 m2 d2] ∧ Own wr w.heap.size 3 1 A' L c' ((ssz.take 12 ++ List.replicate t 0).map iv) ∧ Own wr w.heap.size 44 69 D2 m2 d2 (fl actC sacts) ∧ Obj1 wr z 25 #[.int .i64 0, .slice Option.none 0 0, .int .i64 0, .slice Option.none 0 0] ∧ Nw w wr
theorem pad_step (sz : List Int) (t : Nat) : sz ++ List.replicate (t + 1) (0 : Int) = sz ++ List.replicate t 0 ++ [0] := by
  rw [List.replicate_succ', List.append_assoc]
def zMap (zs : List Int) (j : Nat) : List Int := (zs.take j).map (fun n => 160 + n % 256) ++ zs.drop j
theorem zMap_zero (zs : List Int) : zMap zs 0 = zs := by simp [zMap]
theorem zMap_all {zs : List Int} {j : Nat} (h : zs.length ≤ j) : zMap zs j = zs.map (fun n => 160 + n % 256) := by simp [zMap, List.take_of_length_le h, List.drop_of_length_le h]
theorem zMap_len (zs : List Int) (j : Nat) : (zMap zs j).length = zs.length := by simp [zMap]; omega
theorem zMap_get {zs : List Int} {j : Nat} {z : Int} (h : zs[j]? = some z) : (zMap zs j)[j]? = some z := by
  have hj := (List.getElem?_eq_some_iff.1 h).1
  unfold zMap
  rw [List.getElem?_append_right (by simp; omega), List.length_map, List.length_take, Nat.min_eq_left (by omega), Nat.sub_self, List.getElem?_drop]
  simpa using h
theorem zMap_set {zs : List Int} {j : Nat} {z : Int} (h : zs[j]? = some z) : (zMap zs j).set j (160 + z % 256) = zMap zs (j + 1) := by
  obtain ⟨hj, rfl⟩ := List.getElem?_eq_some_iff.1 h
  unfold zMap
  rw [List.set_append_right _ _ (by simp; omega), List.length_map, List.length_take, Nat.min_eq_left (by omega), Nat.sub_self, List.drop_eq_getElem_cons hj, List.set_cons_zero, List.take_succ_eq_append_getElem hj, List.map_append]
  simp
def aMap (l : List Act) (j : Nat) : List Act := (l.take j).map tameA ++ l.drop j
theorem aMap_zero (l : List Act) : aMap l 0 = l := by simp [aMap]
theorem aMap_all {l : List Act} {j : Nat} (h : l.length ≤ j) : aMap l j = l.map tameA := by simp [aMap, List.take_of_length_le h, List.drop_of_length_le h]
theorem aMap_len (l : List Act) (j : Nat) : (aMap l j).length = l.length := by simp [aMap]; omega
theorem aMap_get {l : List Act} {j : Nat} {z : Act} (h : l[j]? = some z) : (aMap l j)[j]? = some z := by
  have hj := (List.getElem?_eq_some_iff.1 h).1
  unfold aMap
  rw [List.getElem?_append_right (by simp; omega), List.length_map, List.length_take, Nat.min_eq_left (by omega), Nat.sub_self, List.getElem?_drop]
  simpa using h
theorem aMap_set {l : List Act} {j : Nat} {z : Act} (h : l[j]? = some z) : (aMap l j).set j (tameA z) = aMap l (j + 1) := by
  obtain ⟨hj, rfl⟩ := List.getElem?_eq_some_iff.1 h
  unfold aMap
  rw [List.set_append_right _ _ (by simp; omega), List.length_map, List.length_take, Nat.min_eq_left (by omega), Nat.sub_self, List.drop_eq_getElem_cons hj, List.set_cons_zero, List.take_succ_eq_append_getElem hj, List.map_append]
  simp
set_option maxRecDepth 100000 in
set_option maxHeartbeats 8000000 in
theorem tame_any {w : World} {B : Nat} {x : Sc} (h : SOk w B x) (hB : B ≤ w.heap.size) : Calls Try.prog 16 #[sv x] w (ScPost (tameS (scr x)) w) := by
  have HC := Lib.hid (fun w' (k : Nw w w') => cut_any (h.nw k hB) (Nat.le_trans hB k.size))
  have hso := cut_ok h.scrOk
  have HT := Lib.hid (tame_cut (scr x))
  have hnum : (scr x).num = (cutS (scr x)).num := rfl
  rw [show tameS (scr x) = tameS (cutS (scr x)) from HT.out.symm]
  obtain ⟨S, hS⟩ : ∃ S, cutS (scr x) = S := ⟨_, rfl⟩
  have hzl : S.sz.length ≤ 15 := by rw [← hS]; unfold cutS; simp only [List.length_take]; omega
  have hal : S.acts.length ≤ 125 := by rw [← hS]; unfold cutS; simp only [List.length_take]; omega
  rw [hS] at HC hso ⊢
  unfold ScPost sv at HC
  unfold sv
  obtain ⟨num, A, n, c, sz, bl, D, m, d, acts⟩ := x
  obtain ⟨snum, ssz, sbl, sacts⟩ := S
  simp only at HC hzl hal ⊢
  have hok := hso.a
  simp only at hok
  have b1 := obj_fst w 25 #[.int .i64 num, .slice A n c, .int .i64 bl, .slice D m d] (.cells #[.int .i64 0, .slice Option.none 0 0, .int .i64 0, .slice Option.none 0 0] 25)
  have b2 := obj_snd w (.cells #[.int .i64 num, .slice A n c, .int .i64 bl, .slice D m d] 25) 25 #[.int .i64 0, .slice Option.none 0 0, .int .i64 0, .slice Option.none 0 0]
  have g2 := gb_trans (World.grownBy_alloc w (.cells #[.int .i64 num, .slice A n c, .int .i64 bl, .slice D m d] 25) none) (World.grownBy_alloc _ (.cells #[.int .i64 0, .slice Option.none 0 0, .int .i64 0, .slice Option.none 0 0] 25) none)
  clear HT hso hS hnum h
  go_enter Try.func16, Try.ntmps16
  go_upto_region 1 with fail
  obtain ⟨V, hV⟩ : ∃ V, (w.alloc (.cells #[.int .i64 num, .slice A n c, .int .i64 bl, .slice D m d] 25)).alloc (.cells #[.int .i64 0, .slice Option.none 0 0, .int .i64 0, .slice Option.none 0 0] 25) = V := ⟨_, rfl⟩
  rw [hV] at b1 b2 g2
  rw [hV]
  obtain ⟨y, hy⟩ : ∃ y, w.heap.size = y := ⟨_, rfl⟩
  rw [hy] at b1 b2 ⊢
  obtain ⟨z, hz⟩ : ∃ z, y + 1 = z := ⟨_, rfl⟩
  rw [hz] at b2
  rw [hz]
  have hyz : y ≠ z := by omega
  have hwy : w.heap.size ≤ y := by omega
  have hwz : w.heap.size ≤ z := by omega
  have B1 := Lib.hid b1; have B2 := Lib.hid b2; have N2 := Lib.hid g2
  clear b1 b2 g2 hV hz hy
  go_upto_region 2 with (first
    | ((with_reducible refine wpList_store_obj 25 _ _ (by with_unfolding_all exact rfl) (by with_unfolding_all exact rfl) [.int .i64 snum, .slice A2 n2 c2, .int .i64 sbl, .slice D2 m2 d2] (by with_unfolding_all exact rfl) (by with_unfolding_all exact rfl) (by with_unfolding_all exact rfl) (by kernel_rfl) (sc_one _ _ _ _ _ _ _ _) P3.out (by with_unfolding_all exact rfl) ?_); intro w4 s4 g4)
    | ((with_reducible refine (HC.out _ N2.out).mono ?_); rintro e w3 ⟨A2, D2, n2, c2, m2, d2, rfl, o2, q2, k3⟩; have P3 := Lib.hid (B1.out.nw k3); have Q3 := Lib.hid (B2.out.nw k3); have N3 := Lib.hid (gb_trans N2.out k3); have O3 := Lib.hid (o2.more N2.out.size); have R3 := Lib.hid (q2.more N2.out.size))
    | ((with_reducible refine wpList_load_obj 25 _ (by with_unfolding_all exact rfl) (by with_unfolding_all exact rfl) (by with_unfolding_all exact rfl) B1.out _ Try.underlying25 (by with_unfolding_all exact rfl) (by kernel_rfl) ?_)))
  have P4 := Lib.hid s4; have Q4 := Lib.hid (Obj1.kept'' Q3.out g4 (fun r hr => by injection hr with hr; omega))
  have N4 := Lib.hid (nw_of_gb N3.out g4 (fun q hq => by injection hq with hq; omega))
  have O4 := Lib.hid (own_keep25 O3.out P3.out g4); have R4 := Lib.hid (own_keep25 R3.out P3.out g4)
  clear s4 g4 o2 q2 k3 P3 Q3 N3 O3 R3 HC B1 B2 N2
  have m0 : bits BinOp.and IntKind.i64 snum 4294967295 = snum % 4294967296 := and_m _ _ 32 (by decide) (by decide) _ (by decide)
  have m1 : bits BinOp.and IntKind.i64 sbl 127 = sbl % 128 := and_m _ _ 7 (by decide) (by decide) _ (by decide)
  obtain ⟨q, hq⟩ : ∃ q : Nat, sbl % 128 = (q : Int) := ⟨(sbl % 128).toNat, by omega⟩
  rw [hq] at m1
  obtain ⟨r, hr⟩ : ∃ r : Nat, (q : Int).tmod 96 = (r : Int) := ⟨q % 96, by rw [Int.tmod_eq_emod_of_nonneg (by omega)]; omega⟩
  have hr95 : r ≤ 95 := by rw [Int.tmod_eq_emod_of_nonneg (by omega)] at hr; omega
  have hK : 1 + sbl % 128 % 96 = 1 + (r : Int) := by rw [hq]; rw [Int.tmod_eq_emod_of_nonneg (by omega)] at hr; omega
  have HK := Lib.hid hK
  obtain ⟨N, hN⟩ : ∃ N : Int, snum % 4294967296 = N := ⟨_, rfl⟩
  have HN := Lib.hid hN
  rw [hN] at m0
  have hn2 : ssz.length = n2 := by have h := O4.out.len; simpa using h
  have hm2 : sacts.length = m2 := R4.out.lenL actC_len (by decide)
  have k0 := P4.out.cell 0
  clear hq hK hN
  go_upto_region 3 with (first | ((with_reducible refine wpList_store_obj' 3 _ _ (by with_unfolding_all exact rfl) (by with_unfolding_all exact rfl) (i := 0) (.int .i64 N) (by with_unfolding_all exact rfl) (by with_unfolding_all exact rfl) (by with_unfolding_all exact i3) (by with_unfolding_all exact rfl) P4.out (by with_unfolding_all exact rfl) (by with_unfolding_all exact rfl) ?_); intro w5 s5 g5))
  have P5 := Lib.hid (show Obj1 w5 y 25 #[.int .i64 N, .slice A2 n2 c2, .int .i64 sbl, .slice D2 m2 d2] from s5); have Q5 := Lib.hid (Obj1.kept'' Q4.out g5 (fun r hr => by injection hr with hr; omega))
  have N5 := Lib.hid (nw_of_gb N4.out g5 (fun q hq => by injection hq with hq; omega))
  have O5 := Lib.hid (own_keep25 O4.out P4.out g5); have R5 := Lib.hid (own_keep25 R4.out P4.out g5)
  have k2 := P5.out.cell 2
  clear s5 g5 P4 Q4 N4 O4 R4 k0
  go_upto_region 4 with (first | ((with_reducible refine wpList_store_obj' 3 _ _ (by with_unfolding_all exact rfl) (by with_unfolding_all exact rfl) (i := 2) (.int .i64 (1 + (r : Int))) (by with_unfolding_all exact rfl) (by with_unfolding_all exact rfl) (by with_unfolding_all exact i3) (by with_unfolding_all exact rfl) P5.out (by with_unfolding_all exact rfl) (by with_unfolding_all exact rfl) ?_); intro w6 s6 g6))
  have P6 := Lib.hid (show Obj1 w6 y 25 #[.int .i64 N, .slice A2 n2 c2, .int .i64 (1 + (r : Int)), .slice D2 m2 d2] from s6); have Q6 := Lib.hid (Obj1.kept'' Q5.out g6 (fun r hr => by injection hr with hr; omega))
  have N6 := Lib.hid (nw_of_gb N5.out g6 (fun q hq => by injection hq with hq; omega))
  have O6 := Lib.hid (own_keep25 O5.out P5.out g6); have R6 := Lib.hid (own_keep25 R5.out P5.out g6)
  have k1 := P6.out.cell 1
  obtain ⟨bl', hbl'⟩ : ∃ b : Int, 1 + (r : Int) = b := ⟨_, rfl⟩
  rw [hbl'] at P6
  obtain ⟨k, hk, hkm⟩ := cut_len n2 12
  have HKK := Lib.hid (show (if (12 : Int) < (n2 : Int) then (12 : Int) else (n2 : Int)) = (k : Int) from hk)
  have hkc : k ≤ c2 := by have := O6.out.cap; omega
  have hkn : k ≤ n2 := by omega
  have HKM := Lib.hid hkm
  clear s6 g6 P5 Q5 N5 O5 R5 k2 m0 m1 hk hkm
  go_upto_region 5 with (first
    | ((with_reducible refine wpList_store_obj' 22 _ _ (by with_unfolding_all exact rfl) (by with_unfolding_all exact rfl) (i := 1) (.slice A2 k c2) (by with_unfolding_all exact rfl) (by with_unfolding_all exact rfl) (by kernel_rfl) (by with_unfolding_all exact rfl) P6.out (by with_unfolding_all exact rfl) (by with_unfolding_all exact rfl) ?_); intro w7 s7 g7)
    | (refine wpList_slice_hi 22 3 Try.underlying22 (size := 1) (by kernel_rfl) _ _ rfl rfl A2 n2 c2 k rfl rfl hkc ?_)
    | (refine wpList_min_int _ _ _ rfl rfl (n2 : Int) 12 rfl rfl HKK.out ?_))
  have P7 := Lib.hid (show Obj1 w7 y 25 #[.int .i64 N, .slice A2 k c2, .int .i64 bl', .slice D2 m2 d2] from s7); have Q7 := Lib.hid (Obj1.kept'' Q6.out g7 (fun r hr => by injection hr with hr; omega))
  have N7 := Lib.hid (nw_of_gb N6.out g7 (fun q hq => by injection hq with hq; omega))
  have O7 := Lib.hid (own_pre (own_keep25 O6.out P6.out g7) hkn); have R7 := Lib.hid (own_keep25 R6.out P6.out g7)
  have e7 : (ssz.map iv).take (k * 1) = (ssz.take 12).map iv := by rw [Nat.mul_one, ← List.map_take, take_min _ hn2 HKM.out]
  rw [e7] at O7
  have HBL := Lib.hid hbl'
  clear s7 g7 P6 Q6 N6 O6 R6 k1 e7 hbl'
  go_simp
  go_wp2_with fail
  go_loopw [26] (fun _ wr => T1 w y z k N bl' D2 m2 d2 ssz sacts wr) (fun _ wr => 3 - lenAt y 1 wr)
  case atStart => exact ⟨0, k, c2, A2, rfl, .inr rfl, P7.out, by simpa using O7.out, R7.out, Q7.out, N7.out⟩
  case round =>
    obtain ⟨t, L, c', A', hL, ht, hp, ho, hr', hzz, hnw⟩ := hrel
    have k1 := hp.cell 1
    have hla : lenAt y 1 wr = L := by unfold lenAt; rw [k1]; rfl
    rcases (show L < 3 ∨ 3 ≤ L by omega) with hlt | hge
    · have d1 : (L : Int) < 3 := by omega
      have PR := Lib.hid hp; have OR := Lib.hid ho; have AR := Lib.hid hr'; have QR := Lib.hid hzz; have NR := Lib.hid hnw; have HLA := Lib.hid hla; have HLL := Lib.hid hL
      have hbs := hnw.size
      clear hp ho hr' hzz hnw hla hL
      go_wp2_with (first
        | ((with_reducible refine wpList_store_obj' 22 _ _ (by with_unfolding_all exact rfl) (by with_unfolding_all exact rfl) (i := 1) (.slice A8 (L + 1) c8) (by with_unfolding_all exact rfl) (by with_unfolding_all exact rfl) (by kernel_rfl) (by with_unfolding_all exact rfl) P8.out (by with_unfolding_all exact rfl) (by with_unfolding_all exact rfl) ?_); intro w9 s9 g9)
        | (at_builtin; refine wpList_app1_own T22 _ _ rfl rfl rfl rfl OR.out rfl (by unfold maxLen; omega) hbs ?_; intro A8 c8 w8 o8 g8 b8; have P8 := Lib.hid (Obj1.kept'' PR.out g8 (own_obj' OR.out PR.out (by decide)))))
      go_simp
      go_roundw
      case rel =>
        have P9 : Obj1 w9 y 25 #[.int .i64 N, .slice A8 (L + 1) c8, .int .i64 bl', .slice D2 m2 d2] := s9
        have Q8 := Obj1.kept'' QR.out g8 (own_obj' OR.out QR.out (by decide))
        have AR8 := AR.out.kept g8 (fun r hr he => own_apart' OR.out AR.out (by decide) r hr he)
        refine ⟨t + 1, L + 1, c8, A8, by have := HLL.out; omega, .inl (by have := HLL.out; omega), P9, ?_, own_keep25 AR8 P8.out g9, Obj1.kept'' Q8 g9 (fun r hr => by injection hr with hr; omega), nw_of_gb (nw_of_gb NR.out g8 OR.out.blk) g9 (fun q hq => by injection hq with hq; omega)⟩
        have := own_keep25 o8 P8.out g9
        rw [pad_step, List.map_append]
        exact this
      case measure =>
        have k9 : w9.cell? ⟨y, 1, none⟩ = some (.slice A8 (L + 1) c8) := (show Obj1 w9 y 25 #[.int .i64 N, .slice A8 (L + 1) c8, .int .i64 bl', .slice D2 m2 d2] from s9).cell 1
        have : lenAt y 1 w9 = L + 1 := by unfold lenAt; rw [k9]
        rw [this, HLA.out]; omega
    · have d1 : decide ((L : Int) < 3) = false := by simp; omega
      have ht2 : List.replicate t (0 : Int) = List.replicate (3 - ssz.length) 0 := by
        have := HKM.out
        congr 1; omega
      rw [ht2] at ho
      obtain ⟨zs, hzs⟩ : ∃ zs, ssz.take 12 ++ List.replicate (3 - ssz.length) (0 : Int) = zs := ⟨_, rfl⟩
      rw [hzs] at ho
      have HZS := Lib.hid hzs
      have hLz : zs.length = L := by have h := ho.len; simpa using h
      have PR := Lib.hid hp; have OR := Lib.hid ho; have AR := Lib.hid hr'; have QR := Lib.hid hzz; have NR := Lib.hid hnw
      have hL15 : L ≤ 20 := by omega
      have HLZ := Lib.hid hLz
      clear hp ho hr' hzz hnw hla hL ht ht2 hzs hLz
      go_wp2_with fail
      go_loopw [3] (fun iv' wr => ∃ j : Nat, j ≤ L ∧ iv' = .int .i64 j ∧ Obj1 wr y 25 #[.int .i64 N, .slice A' L c', .int .i64 bl', .slice D2 m2 d2] ∧ Own wr w.heap.size 3 1 A' L c' ((zMap zs j).map iv) ∧ Own wr w.heap.size 44 69 D2 m2 d2 (fl actC sacts) ∧ Obj1 wr z 25 #[.int .i64 0, .slice Option.none 0 0, .int .i64 0, .slice Option.none 0 0] ∧ Nw w wr) (fun i _ => L - (intOf i).toNat)
      case atStart => exact ⟨0, Nat.zero_le _, rfl, PR.out, by rw [zMap_zero]; exact OR.out, AR.out, QR.out, NR.out⟩
      case round =>
        clear PR OR AR QR NR
        obtain ⟨j, hj, rfl, hp, ho, hr', hzz, hnw⟩ := hrel
        have k1 := hp.cell 1
        rcases (show j < L ∨ j = L by omega) with hlt | rfl
        · have d1 : (j : Int) < (L : Int) := by omega
          obtain ⟨g, rfl, hg⟩ := ho.some_ (by omega)
          obtain ⟨v, hv⟩ : ∃ v, zs[j]? = some v := ⟨_, List.getElem?_eq_getElem (show j < zs.length by rw [HLZ.out]; exact hlt)⟩
          have mv : bits BinOp.and IntKind.i64 v 255 = v % 256 := and_m _ _ 8 (by decide) (by decide) _ (by decide)
          have PR := Lib.hid hp; have OR := Lib.hid ho; have AR := Lib.hid hr'; have QR := Lib.hid hzz; have NR := Lib.hid hnw; have HV := Lib.hid hv
          have f1 : ∀ w', Nw wr w' → w'.cell? ⟨y, 1, none⟩ = some (.slice (some ⟨g, 0, none⟩) L c') := fun w' k => (PR.out.nw k).cell 1
          have f2 : ∀ w', Nw wr w' → w'.cell? ⟨g, j, none⟩ = some (.int .i64 v) := fun w' k => by
            obtain ⟨u, hu, hc, _⟩ := (OR.out.nw k).cellAt hlt
            rw [List.getElem?_map, zMap_get HV.out] at hu
            cases hu
            exact hc
          clear hp ho hr' hzz hnw hv
          go_upto_region 10 with fail
          refine wp_region_U [11] (fun w' => Nw wr w') (by kernel_rfl) ?_
          change wpU _ _ _ _ _ _ _ _ _ (World.drew wr)
          refine U_segL (r := [0, 1, 2, 3, 4, 5, 6, 7, 8, 9, 10]) (fuel := 1) rfl (by kernel_rfl) (by kernel_rfl) (by simp only [List.filterMap_cons, List.filterMap_nil, List.getElem?_toArray, List.getElem?_cons_succ, List.getElem?_cons_zero]; rfl) (fun _ _ d _ _ h => by cases d <;> exact h) (gb_drew (Nw.refl wr)) ?_
          iterate 11 (refine wpYield_step rfl (fun K hK => ?_)
                      apply Exists.intro
                      refine ⟨fun w' hw' => ?_, ?_⟩
                      · (go_simp; try with_reducible rfl)
                      go_simp
                      refine hK _ ?_
                      clear hK K)
          refine wpYield_nil ?_
          have OD := Lib.hid (show Own wr.drew w.heap.size 3 1 (some ⟨g, 0, none⟩) L c' ((zMap zs j).map iv) from OR.out)
          have PD := Lib.hid (show Obj1 wr.drew y 25 #[.int .i64 N, .slice (some ⟨g, 0, none⟩) L c', .int .i64 bl', .slice D2 m2 d2] from PR.out)
          have QD := Lib.hid (show Obj1 wr.drew z 25 #[.int .i64 0, .slice Option.none 0 0, .int .i64 0, .slice Option.none 0 0] from QR.out)
          have AD := Lib.hid (show Own wr.drew w.heap.size 44 69 D2 m2 d2 (fl actC sacts) from AR.out)
          have ND := Lib.hid (show Nw w wr.drew from gb_drew NR.out)
          clear f1 f2
          generalize wr.drew = wd at OD PD QD AD ND ⊢
          have hw1 : IntKind.i64.wrap (160 + v % 256) = 160 + v % 256 := by rw [IntKind.wrap_i64]; omega
          refine U_eff 11 rfl (by kernel_rfl) rfl (fun K hK => ?_)
          refine wp_store_own (size := 1) (cs := [.int .i64 (160 + v % 256)]) 3 _ _ rfl rfl (v := .int .i64 (160 + v % 256)) (by first | rfl | (show Value.int .i64 (IntKind.i64.wrap (160 + v % 256)) = _; rw [hw1])) rfl (by with_unfolding_all exact i3) (one1 _ rfl) OD.out (by simp; omega) (fun w9 s9 g9 => ?_)
          refine hK _ _ ⟨until_past (by kernel_rfl), ?_⟩
          clear hK K
          refine U_done (by kernel_rfl) ?_ _
          rw [splice_one (by simp [zMap_len]; rw [HLZ.out]; exact hlt)] at s9
          have e9 : ((zMap zs j).map iv).set j (.int .i64 (160 + v % 256)) = (zMap zs (j + 1)).map iv := by rw [← zMap_set HV.out, List.map_set]; rfl
          rw [e9] at s9
          have gr : ∀ q, (some g : Option Nat) = some q → (Value.slice (some ⟨g, 0, none⟩) L c').ownBlock = some q := fun q h => h
          go_wp2
          go_roundw
          case rel => exact ⟨j + 1, by omega, by go_num, Obj1.kept'' PD.out g9 (fun q hq => own_obj' OD.out PD.out (by decide) q hq), s9, AD.out.kept g9 (fun q hq he => own_apart' OD.out AD.out (by decide) q hq he), Obj1.kept'' QD.out g9 (fun q hq => own_obj' OD.out QD.out (by decide) q hq), nw_of_gb ND.out g9 (fun q hq => by injection hq with hq; omega)⟩
          case measure => simp only [intOf]; omega
        · have d1 : decide ((j : Int) < (j : Int)) = false := by simp
          rw [zMap_all (by rw [HLZ.out]; exact Nat.le_refl _), ← HZS.out] at ho
          have hm3 : sacts.length = m2 := hr'.lenL actC_len (by decide)
          obtain ⟨p, hp1, hpm⟩ := cut_len m2 120
          have HPP := Lib.hid (show (if (120 : Int) < (m2 : Int) then (120 : Int) else (m2 : Int)) = (p : Int) from hp1)
          have hpc : p ≤ d2 := by have := hr'.cap; omega
          have hpn : p ≤ m2 := by omega
          have hp120 : p ≤ 120 := by omega
          have k3 := hp.cell 3
          have PR := Lib.hid hp; have OR := Lib.hid ho; have AR := Lib.hid hr'; have QR := Lib.hid hzz; have NR := Lib.hid hnw
          have HTA := Lib.hid (take_min sacts hm3 hpm)
          clear hp ho hr' hzz hnw hp1 hpm
          go_upto_region 12 with (first
            | ((with_reducible refine wpList_store_obj' 23 _ _ (by with_unfolding_all exact rfl) (by with_unfolding_all exact rfl) (i := 3) (.slice D2 p d2) (by with_unfolding_all exact rfl) (by with_unfolding_all exact rfl) (by kernel_rfl) (by with_unfolding_all exact rfl) PR.out (by with_unfolding_all exact rfl) (by with_unfolding_all exact rfl) ?_); intro w9 s9 g9)
            | (refine wpList_slice_hi 23 44 Try.underlying23 (size := 69) (by kernel_rfl) _ _ rfl rfl D2 m2 d2 p rfl rfl hpc ?_)
            | (refine wpList_min_int _ _ _ rfl rfl (m2 : Int) 120 rfl rfl HPP.out ?_))
          have P9 := Lib.hid (show Obj1 w9 y 25 #[.int .i64 N, .slice A' j c', .int .i64 bl', .slice D2 p d2] from s9); have Q9 := Lib.hid (Obj1.kept'' QR.out g9 (fun r hr => by injection hr with hr; omega))
          have N9 := Lib.hid (nw_of_gb NR.out g9 (fun q hq => by injection hq with hq; omega))
          have O9 := Lib.hid (own_keep25 OR.out PR.out g9); have a9 := own_pre (own_keep25 AR.out PR.out g9) hpn
          rw [fl_take actC_len, HTA.out] at a9
          obtain ⟨acts', hac⟩ : ∃ l, sacts.take 120 = l := ⟨_, rfl⟩
          rw [hac] at a9
          have A9 := Lib.hid a9; have HAC := Lib.hid hac
          have hokp : ∀ a ∈ acts', ActOk a := by intro a ha; rw [← hac] at ha; exact hok a (List.mem_of_mem_take ha)
          have HOK := Lib.hid hokp
          have hla : acts'.length = p := a9.lenL actC_len (by decide)
          have HLA := Lib.hid hla
          clear s9 g9 PR QR NR OR AR k3 a9 hac hokp hla
          go_simp
          go_wp2_with fail
          go_loopw [4] (fun iv' wr => ∃ i : Nat, i ≤ p ∧ iv' = .int .i64 i ∧ Obj1 wr y 25 #[.int .i64 N, .slice A' j c', .int .i64 bl', .slice D2 p d2] ∧ Own wr w.heap.size 3 1 A' j c' ((tameZ ssz).map iv) ∧ Own wr w.heap.size 44 69 D2 p d2 (fl actC (aMap acts' i)) ∧ Obj1 wr z 25 #[.int .i64 0, .slice Option.none 0 0, .int .i64 0, .slice Option.none 0 0] ∧ Nw w wr) (fun i _ => p - (intOf i).toNat)
          case atStart => exact ⟨0, Nat.zero_le _, rfl, P9.out, O9.out, by rw [aMap_zero]; exact A9.out, Q9.out, N9.out⟩
          case round =>
            clear P9 Q9 N9 O9 A9
            obtain ⟨i, hi, rfl, hp, ho, hr', hzz, hnw⟩ := hrel
            have k3 := hp.cell 3
            rcases (show i < p ∨ i = p by omega) with hlt | rfl
            · have d1 : (i : Int) < (p : Int) := by omega
              obtain ⟨g, rfl, hg⟩ := hr'.some_ (by omega)
              obtain ⟨v, hv⟩ : ∃ v, acts'[i]? = some v := ⟨_, List.getElem?_eq_getElem (show i < acts'.length by rw [HLA.out]; exact hlt)⟩
              have hvo := (HOK.out v (List.mem_of_getElem? hv)).s
              have PR := Lib.hid hp; have OR := Lib.hid ho; have AR := Lib.hid hr'; have QR := Lib.hid hzz; have NR := Lib.hid hnw; have HV := Lib.hid hv
              have f1 : ∀ w', Nw wr w' → w'.cell? ⟨y, 3, none⟩ = some (.slice (some ⟨g, 0, none⟩) p d2) := fun w' k => (PR.out.nw k).cell 3
              have f2 := Lib.hid (fun w' (k : Nw wr w') => (AR.out.nw k).atL actC_len (by decide) (aMap_get HV.out))
              clear hp ho hr' hzz hnw hv
              go_upto_region 15 with fail
              refine wp_region_U [10] (fun w' => Nw wr w') (by kernel_rfl) ?_
              change wpU _ _ _ _ _ _ _ _ _ (World.drew wr)
              refine U_segL (r := [0, 1, 2, 3, 4, 5, 6, 7]) (fuel := 3) rfl (by kernel_rfl) (by kernel_rfl) (by simp only [List.filterMap_cons, List.filterMap_nil, List.getElem?_toArray, List.getElem?_cons_succ, List.getElem?_cons_zero]; rfl) (fun _ _ d _ _ h => by cases d <;> exact h) (gb_drew (Nw.refl wr)) ?_
              iterate 7 (refine wpYield_step rfl (fun K hK => ?_)
                         apply Exists.intro
                         refine ⟨fun w' hw' => ?_, ?_⟩
                         · (go_simp; try with_reducible rfl)
                         go_simp
                         refine hK _ ?_
                         clear hK K)
              refine wpYield_load_agg 44 _ rfl rfl rfl (actC v) (fun w' hw' => f2.out w' hw') _ Try.underlying44 rfl (i44' v) ?_
              refine wpYield_nil ?_
              have OD := Lib.hid (show Own wr.drew w.heap.size 3 1 A' j c' ((tameZ ssz).map iv) from OR.out)
              have PD := Lib.hid (show Obj1 wr.drew y 25 #[.int .i64 N, .slice A' j c', .int .i64 bl', .slice (some ⟨g, 0, none⟩) p d2] from PR.out)
              have QD := Lib.hid (show Obj1 wr.drew z 25 #[.int .i64 0, .slice Option.none 0 0, .int .i64 0, .slice Option.none 0 0] from QR.out)
              have AD := Lib.hid (show Own wr.drew w.heap.size 44 69 (some ⟨g, 0, none⟩) p d2 (fl actC (aMap acts' i)) from AR.out)
              have ND := Lib.hid (show Nw w wr.drew from gb_drew NR.out)
              have KD := Lib.hid (show Nw wr wr.drew from gb_drew (Nw.refl wr))
              clear f1 f2
              generalize wr.drew = wd at OD PD QD AD ND KD ⊢
              refine U_eff 8 rfl (by kernel_rfl) rfl (fun K hK => ?_)
              go_simp
              refine (act_any hvo wd).mono ?_
              rintro e w10 ⟨rfl, n10⟩
              have OE := Lib.hid (OD.out.nw n10); have PE := Lib.hid (PD.out.nw n10); have QE := Lib.hid (QD.out.nw n10); have AE := Lib.hid (AD.out.nw n10); have NE := Lib.hid (gb_trans ND.out n10); have KE := Lib.hid (gb_trans KD.out n10)
              refine hK _ _ ⟨until_of KE.out, ?_⟩
              clear hK K OD PD QD AD ND KD n10
              refine U_segP (r := [9]) (fuel := 1) rfl (by kernel_rfl) (by kernel_rfl) (by simp only [List.filterMap_cons, List.filterMap_nil, List.getElem?_toArray, List.getElem?_cons_succ, List.getElem?_cons_zero]; rfl) (fun _ _ d _ _ h => by cases d <;> exact h) (until_of KE.out) ?_
              (refine wpYield_step rfl (fun K hK => ?_)
               apply Exists.intro
               refine ⟨fun w' hw' => ?_, ?_⟩
               · (go_simp; try with_reducible rfl)
               go_simp
               refine hK _ ?_
               clear hK K)
              refine wpYield_nil ?_
              refine U_eff 10 rfl (by kernel_rfl) rfl (fun K hK => ?_)
              refine wp_store_own (size := 69) (cs := actC (tameA v)) (off := i * 69) 44 _ _ rfl rfl (v := .agg (actC (tameA v)).toArray) rfl rfl (i44' _) (actC_one _) AE.out (by rw [actC_len]; omega) (fun w9 s9 g9 => ?_)
              refine hK _ _ ⟨until_past (by kernel_rfl), ?_⟩
              clear hK K
              refine U_done (by kernel_rfl) ?_ _
              rw [fl_set actC_len (by rw [aMap_len, HLA.out]; exact hlt), aMap_set HV.out] at s9
              go_wp2
              go_roundw
              case rel => exact ⟨i + 1, by omega, by go_num, Obj1.kept'' PE.out g9 (fun q hq => own_obj' AE.out PE.out (by decide) q hq), OE.out.kept g9 (fun q hq he => own_apart' AE.out OE.out (by decide) q hq he), s9, Obj1.kept'' QE.out g9 (fun q hq => own_obj' AE.out QE.out (by decide) q hq), nw_of_gb NE.out g9 (fun q hq => by injection hq with hq; omega)⟩
              case measure => simp only [intOf]; omega
            · have d1 : decide ((i : Int) < (i : Int)) = false := by simp
              rw [aMap_all (by rw [HLA.out]; exact Nat.le_refl _)] at hr'
              have PR := Lib.hid hp; have OR := Lib.hid ho; have AR := Lib.hid hr'; have QR := Lib.hid hzz; have NR := Lib.hid hnw
              have hfin : tameS ⟨snum, ssz, sbl, sacts⟩ = ⟨N, tameZ ssz, bl', acts'.map tameA⟩ := by
                unfold tameS
                simp only
                rw [HN.out, HK.out, HBL.out, HAC.out]
              have HF := Lib.hid hfin
              clear hp ho hr' hzz hnw hfin
              go_wp2_with (first
                | ((with_reducible refine wpList_store_obj 25 _ _ (by with_unfolding_all exact rfl) (by with_unfolding_all exact rfl) [.int .i64 N, .slice A' j c', .int .i64 bl', .slice D2 i d2] (by with_unfolding_all exact rfl) (by with_unfolding_all exact rfl) (by with_unfolding_all exact rfl) (by kernel_rfl) (sc_one _ _ _ _ _ _ _ _) QR.out (by with_unfolding_all exact rfl) ?_); intro w9 s9 g9)
                | ((with_reducible refine wpList_load_obj 25 _ (by with_unfolding_all exact rfl) (by with_unfolding_all exact rfl) (by with_unfolding_all exact rfl) PR.out _ Try.underlying25 (by with_unfolding_all exact rfl) (by kernel_rfl) ?_)))
              refine bodyPost_ret (res_cell rfl _ _ _ 25 _ _ rfl s9 Try.underlying25 rfl (by kernel_rfl)) rfl ?_
              rw [HF.out]
              exact ⟨_, _, _, _, _, _, rfl, own_keep25 OR.out QR.out g9, own_keep25 AR.out QR.out g9, nw_of_gb NR.out g9 (fun q hq => by injection hq with hq; omega)⟩
end Go.Proofs.Ytmcgfnfhpcddlaa

