/- The Go function RecordBack returns true for all ints and every slice of bytes, and only makes new memory; without conditions. -/
import Derived.Test.YtlfkeohlnhlcoaaDoorHW
import Derived.Test.YtlfkeohlnhlcoaaDoorFr
import Derived.Test.YtlfkeohlnhlcoaaDoorReg
namespace Go.Proofs.YtlfkeohlnhlcoaaDoor
open Go.RowKit Go.BW
theorem splitN_take (g n : Int) (N : Nat) (bs : List UInt8) {k m : Nat} (h : k ≤ m) : (splitN g n N bs m).take (k * 64) = splitN g n N bs k := by
  induction m with
  | zero => have : k = 0 := by omega
            subst this; simp [splitN]
  | succ m ih =>
    rcases Nat.lt_or_ge k (m + 1) with h1 | h1
    · rw [splitN, List.take_append_of_le_length (by rw [splitN_len]; omega), ih (by omega)]
    · have : k = m + 1 := by omega
      subst this
      exact List.take_of_length_le (by rw [splitN_len]; exact Nat.le_refl _)
theorem join_less {g n : Int} (g0 : 0 ≤ g) (g1 : g ≤ 4294967295) (n0 : 0 ≤ n) (n1 : n ≤ 4294967295) {bs : List UInt8} {N : Nat} (hN : partsZ bs.length = (N : Int)) :
    joinB g n (N - 1) (splitN g n N bs (N - 1)) = false := by
  rcases Nat.lt_or_ge 0 (N - 1) with h | h
  · exact join_bad h (by rw [splitN_at h, fit_sec g0 g1 n0 n1 hN (by omega), decide_eq_false_iff_not]; omega)
  · have e : N - 1 = 0 := by omega
    rw [e]; unfold joinB; simp
theorem join_turned {g n : Int} (g0 : 0 ≤ g) (g1 : g ≤ 4294967295) (n0 : 0 ≤ n) (n1 : n ≤ 4294967295) {bs : List UInt8} {N q : Nat} (hN : partsZ bs.length = (N : Int)) (hq : q + 1 < N) :
    joinB g n N (setSec (setSec (splitN g n N bs N) q (secI g n N bs (q + 1))) (q + 1) (secI g n N bs q)) = false := by
  have h1 := secI_len g n N bs q
  have h2 := secI_len g n N bs (q + 1)
  have h3 := splitN_len g n N bs N
  refine join_bad (k := q) (by omega) ?_
  rw [setSec_other h1 (by rw [setSec_len h2 (by omega)]; omega) (by omega), setSec_at h2 (by omega), fit_sec g0 g1 n0 n1 hN hq, decide_eq_false_iff_not]
  omega
set_option maxRecDepth 100000 in
set_option maxHeartbeats 8000000 in
theorem back_walk (g : Int) (_ : -9223372036854775808 ≤ g ∧ g ≤ 9223372036854775807) (nn : Int) (_ : -9223372036854775808 ≤ nn ∧ nn ≤ 9223372036854775807) {w : World} (A : Option Addr) (n c : Nat) (bs : List UInt8) (hin : InB w A n c bs)
    (at_ : Int) (_ : -9223372036854775808 ≤ at_ ∧ at_ ≤ 9223372036854775807) :
    Calls Tryd.prog 5 #[.int .i64 g, .int .i64 nn, .slice A n c, .int .i64 at_] w (Ret (.bool true) w) := by
  obtain ⟨hr, hc, hcm, hl⟩ := hin
  obtain ⟨k, hk, hkn, hk2⟩ := cut_len n 2120
  have HK := Lib.hid (show (if (2120 : Int) < (n : Int) then (2120 : Int) else (n : Int)) = (k : Int) from hk)
  have hrk := hr.take (size := 1) hkn
  rw [Nat.mul_one, ← List.map_take] at hrk
  have hlk : (bs.take k).length = k := by rw [List.length_take]; omega
  generalize bs.take k = bk at *
  clear hr hl hk
  unfold maxLen at hcm
  have hkc : k ≤ c := by omega
  have HS := Lib.hid (fun w' => shown_any w')
  obtain ⟨g', eg, g0, g1⟩ := and_32 g
  obtain ⟨m', em, m0, m1⟩ := and_32 nn
  obtain ⟨a, ea, ha⟩ := and_255 at_
  obtain ⟨N, hN, hN0, hN40⟩ := parts_some hk2
  have hN' : partsZ bk.length = (N : Int) := by rw [hlk]; exact hN
  have HP := Lib.hid (fun w' => parts_any (k : Int) w')
  rw [hN] at HP
  have HL := Lib.hid (split_good g0 g1 m0 m1 hN' hN0)
  have HRK := Lib.hid hrk
  unfold Ret at HS
  have HSP := Lib.hid (fun (w' : World) (h : Nw w w') => show Calls Tryd.prog 11 #[.int .i64 g', .int .i64 m', .slice A k c] w' (RetOwn 35 64 ((splitN g' m' N bk N).map bv) w') from by
    have := split_any (g := g') (nn := m') (d := c) ((HRK.out.nw h (Nat.le_refl _)).more h.size) (by omega) (by unfold maxLen; omega)
    rwa [HL.out] at this)
  obtain ⟨j1, j2⟩ := join_split g0 g1 m0 m1 hN' hN0
  have HJ0 := Lib.hid (fun (w' : World) (A1 : Option Addr) (c1 B1 : Nat) (h : Own w' B1 35 64 A1 N c1 ((splitN g' m' N bk N).map bv)) => show Calls Tryd.prog 18 #[.int .i64 g', .int .i64 m', .slice A1 N c1] w' (fun e w'' => ∃ A m c, e = .returned (.tuple #[.slice A m c, .bool true]) ∧ Own w'' w'.heap.size 5 1 A m c (bk.map bv) ∧ Nw w' w'') from by
    have := join_any (g := g') (nn := m') (d := c1) h.rd (by omega)
    unfold JoinPost at this
    rwa [j1, j2] at this)
  have j3 := join_less g0 g1 m0 m1 hN'
  have HJ1 := Lib.hid (fun (w' : World) (A1 : Option Addr) (c1 B1 : Nat) (h : Own w' B1 35 64 A1 N c1 ((splitN g' m' N bk N).map bv)) => show Calls Tryd.prog 18 #[.int .i64 g', .int .i64 m', .slice A1 (N - 1) c1] w' (fun e w'' => ∃ A m c, e = .returned (.tuple #[.slice A m c, .bool false]) ∧ Nw w' w'') from by
    have h2 := h.rd.take (k := N - 1) (by omega)
    rw [← List.map_take, splitN_take g' m' N bk (by omega)] at h2
    refine (join_any h2 (by omega)).mono ?_
    rintro e w'' ⟨A, m, c, rfl, h1, h2⟩
    exact ⟨A, m, c, by rw [j3], h2⟩)
  have hNm1 : (N : Int) - 1 = ((N - 1 : Nat) : Int) := by omega
  have HNM := Lib.hid hNm1
  have b1 : ((N : Int) == 0) = false := by simp; omega
  have HX := Lib.hid (splitN_len g' m' N bk N)
  have hni : ∀ {w' : World} {B m : Nat} {A1 : Option Addr} {c1 : Nat} {xs : List UInt8}, xs.length = N * 64 → Own w' B 35 64 A1 m c1 (xs.map bv) → N = m := by
    intro w' B m A1 c1 xs h1 h2; have := h2.len; rw [List.length_map] at this; omega
  rcases (show N = 1 ∨ 1 < N by omega) with hN1 | hN1
  · have b2 : decide ((N : Int) < 2) = true := by simp; omega
    have HN1 := Lib.hid hN1
    clear HL hrk j1 j2 j3 hN' hN hNm1 hN1
    go_enter Tryd.func5, Tryd.ntmps5
    go_wp2_with (first | (refine (HJ1.out _ _ _ _ O3.out).mono ?_; rintro e w4 ⟨A4, m4, c4, rfl, n4⟩; have N4 := Lib.hid (gb_trans N3.out n4); have O4 := Lib.hid (O3.out.nw n4); clear n4) | (refine wpList_slice_hi' 24 35 Tryd.underlying24 (size := 64) (by kernel_rfl) _ _ rfl rfl (some ⟨y, 0, none⟩) N c2 (N - 1) _ rfl rfl HNM.out hcap2 ?_) | ((with_reducible refine (HP.out _).mono ?_); rintro e w6 ⟨rfl, rfl⟩) | (refine wpList_bytes_str 22 9 5 Tryd.underlying22 Tryd.underlying5 Tryd.underlying9 _ rfl rfl rfl (HRK.out.nw N3.out (Nat.le_refl _)) ?_) | (refine wpList_bytes_str 22 9 5 Tryd.underlying22 Tryd.underlying5 Tryd.underlying9 _ rfl rfl rfl P3.out.rd ?_) | (refine (HJ0.out _ _ _ _ O2.out).mono ?_; rintro e w3 ⟨A3, m3, c3, rfl, o3, n3⟩; have P3 := Lib.hid o3; have O3 := Lib.hid (O2.out.nw n3); have N3 := Lib.hid (gb_trans N2.out n3); clear o3 n3) | (refine (HSP.out _ n1).mono ?_; rintro e w2 ⟨A2, m2, c2, rfl, o2, n2⟩; have e2 := hni HX.out o2; subst e2; obtain ⟨y, rfl, hy⟩ := o2.some_ (Nat.pos_of_ne_zero hN0); have hcap2 := Nat.le_trans (Nat.sub_le N 1) o2.cap.1; have O2 := Lib.hid o2; have N2 := Lib.hid (gb_trans n1 n2); clear o2 n2) | (refine wpList_slice_hi 22 5 Tryd.underlying22 (size := 1) (by kernel_rfl) _ _ rfl rfl A n c k rfl rfl hkc ?_) | (refine wpList_min_int _ _ _ rfl rfl (n : Int) 2120 rfl rfl HK.out ?_) | ((with_reducible refine (HS.out _).mono ?_); rintro e w1 ⟨rfl, n1⟩))
    go_ret
    exact ⟨rfl, N4.out⟩
  · have b2 : decide ((N : Int) < 2) = false := by simp; omega
    have b3 : ((N : Int) - 1 == 0) = false := by simp; omega
    have hq : a % (N - 1) < N - 1 := Nat.mod_lt _ (by omega)
    obtain ⟨q, hqq⟩ : ∃ q, a % (N - 1) = q := ⟨_, rfl⟩
    rw [hqq] at hq
    have hit : ((a : Int)).tmod ((N : Int) - 1) = (q : Int) := by rw [← hqq, hNm1]; exact Int.ofNat_tmod _ _
    have j4 := join_turned g0 g1 m0 m1 hN' (show q + 1 < N by omega)
    have a0 := splitN_at (g := g') (n := m') (N := N) (bs := bk) (k := q) (m := N) (by omega)
    have a1 := splitN_at (g := g') (n := m') (N := N) (bs := bk) (k := q + 1) (m := N) (by omega)
    have l0 := secI_len g' m' N bk q
    have l1 := secI_len g' m' N bk (q + 1)
    have hbig := splitN_len g' m' N bk N
    obtain ⟨X, hX⟩ : ∃ X, splitN g' m' N bk N = X := ⟨_, rfl⟩
    obtain ⟨s0, hs0⟩ : ∃ s, secI g' m' N bk q = s := ⟨_, rfl⟩
    obtain ⟨s1, hs1⟩ : ∃ s, secI g' m' N bk (q + 1) = s := ⟨_, rfl⟩
    rw [hX] at j4 a0 a1 HSP HJ0 HJ1 HX hbig
    rw [hs0] at j4 a0 l0
    rw [hs1] at j4 a1 l1
    have HBG := Lib.hid hbig; have A0 := Lib.hid a0; have A1 := Lib.hid a1; have L0 := Lib.hid l0; have L1 := Lib.hid l1
    have HJ2 := Lib.hid (fun (w' : World) (A1 : Option Addr) (c1 B1 : Nat) (h : Own w' B1 35 64 A1 N c1 ((setSec (setSec X q s1) (q + 1) s0).map bv)) => show Calls Tryd.prog 18 #[.int .i64 g', .int .i64 m', .slice A1 N c1] w' (fun e w'' => ∃ A m c, e = .returned (.tuple #[.slice A m c, .bool false]) ∧ Nw w' w'') from by
      refine (join_any h.rd (by omega)).mono ?_
      rintro e w'' ⟨A, m, c, rfl, h1, h2⟩
      exact ⟨A, m, c, by rw [j4], h2⟩)
    have hone := bv_one X
    have hs5 : N * 64 ≤ 140737488355328 ∧ N ≤ maxLen := by unfold maxLen; omega
    clear HL hrk j1 j2 j3 j4 hN' hN hNm1 hX hs0 hs1 a0 a1 l0 l1 hbig hqq hlk
    go_enter Tryd.func5, Tryd.ntmps5
    go_wp2_with (first | (at_builtin; refine wpList_app_lit T24 _ _ rfl rfl w.heap.size rfl rfl O4.out.rd (Nat.le_refl _) hone hs5 N4.out.size ?_; intro A5 c5 w5 o5 n5; obtain ⟨z, rfl, hz⟩ := o5.some_ (Nat.pos_of_ne_zero hN0); have O5 := Lib.hid o5; have N5 := Lib.hid (gb_trans N4.out n5); clear o5 n5) | (refine (HJ1.out _ _ _ _ O3.out).mono ?_; rintro e w4 ⟨A4, m4, c4, rfl, n4⟩; have N4 := Lib.hid (gb_trans N3.out n4); have O4 := Lib.hid (O3.out.nw n4); clear n4) | (refine wpList_slice_hi' 24 35 Tryd.underlying24 (size := 64) (by kernel_rfl) _ _ rfl rfl (some ⟨y, 0, none⟩) N c2 (N - 1) _ rfl rfl HNM.out hcap2 ?_) | ((with_reducible refine (HP.out _).mono ?_); rintro e w6 ⟨rfl, rfl⟩) | (refine wpList_bytes_str 22 9 5 Tryd.underlying22 Tryd.underlying5 Tryd.underlying9 _ rfl rfl rfl (HRK.out.nw N3.out (Nat.le_refl _)) ?_) | (refine wpList_bytes_str 22 9 5 Tryd.underlying22 Tryd.underlying5 Tryd.underlying9 _ rfl rfl rfl P3.out.rd ?_) | (refine (HJ0.out _ _ _ _ O2.out).mono ?_; rintro e w3 ⟨A3, m3, c3, rfl, o3, n3⟩; have P3 := Lib.hid o3; have O3 := Lib.hid (O2.out.nw n3); have N3 := Lib.hid (gb_trans N2.out n3); clear o3 n3) | (refine (HSP.out _ n1).mono ?_; rintro e w2 ⟨A2, m2, c2, rfl, o2, n2⟩; have e2 := hni HX.out o2; subst e2; obtain ⟨y, rfl, hy⟩ := o2.some_ (Nat.pos_of_ne_zero hN0); have hcap2 := Nat.le_trans (Nat.sub_le N 1) o2.cap.1; have O2 := Lib.hid o2; have N2 := Lib.hid (gb_trans n1 n2); clear o2 n2) | (refine wpList_slice_hi 22 5 Tryd.underlying22 (size := 1) (by kernel_rfl) _ _ rfl rfl A n c k rfl rfl hkc ?_) | (refine wpList_min_int _ _ _ rfl rfl (n : Int) 2120 rfl rfl HK.out ?_) | ((with_reducible refine (HS.out _).mono ?_); rintro e w1 ⟨rfl, n1⟩))
    have HC := Lib.hid (fun (i : Nat) (s : List UInt8) (hi : i < N) (hs : secAt X i = s) (w' : World) (h : Nw w5 w') => show ∀ j u, (s.map bv)[j]? = some u → w'.cell? ⟨z, i * 64 + j, none⟩ = some u from by
      intro j u hu
      obtain ⟨b, off, e, _, _, hc⟩ := (O5.out.nw h).rd.atN hi (by decide)
      injection e with e; injection e with e1 e2; subst e1; subst e2
      have := hc j u (by rw [← List.map_drop, ← List.map_take]; change ((secAt X i).map bv)[j]? = some u; rw [hs]; exact hu)
      rwa [Nat.zero_add] at this)
    have HC0 := Lib.hid (fun w' h => HC.out q s0 (by omega) A0.out w' h)
    have HC1 := Lib.hid (fun w' h => HC.out (q + 1) s1 (by omega) A1.out w' h)
    have k1 : (q : Int) < (N : Int) := by omega
    have k2 : (q : Int) + 1 < (N : Int) := by omega
    have k4 : (0 : Int) ≤ (q : Int) + 1 := by omega
    have k3 : IntKind.i64.wrap ((q : Int) + 1) = (q : Int) + 1 := IntWalk.i64_in _ (by omega)
    have hsz0 : (Tryd.prog.info? 35).map (·.size) = some (s0.map bv).length := by rw [List.length_map, L0.out]; kernel_rfl
    have hsz1 : (Tryd.prog.info? 35).map (·.size) = some (s1.map bv).length := by rw [List.length_map, L1.out]; kernel_rfl
    clear HC HJ0 HJ1 HSP O4 P3 O3 O2 N2 N3 N4
    refine wp_region_U [15] (fun w' => Nw w5 w') (by kernel_rfl) ?_
    change wpU _ _ _ _ _ _ _ _ _ (World.drew w5)
    refine U_segP (r := [0, 1, 2, 3, 4, 5, 6, 7, 8, 10, 11, 12]) (fuel := 6) rfl (by kernel_rfl) (by kernel_rfl) (by simp only [List.filterMap_cons, List.filterMap_nil, List.getElem?_toArray, List.getElem?_cons_succ, List.getElem?_cons_zero]; rfl) (fun _ _ d _ _ h => by cases d <;> exact h) (until_of (gb_drew (Nw.refl w5))) ?_
    iterate 12 (refine wpYield_step rfl (fun K hK => ?_)
                apply Exists.intro
                refine ⟨fun w' hw' => ?_, ?_⟩
                · (go_simp; try with_reducible rfl)
                go_simp
                refine hK _ ?_
                clear hK K)
    refine wpYield_nil ?_
    refine U_segL (r := [9, 13]) (fuel := 4) rfl (by kernel_rfl) (by kernel_rfl) (by simp only [List.filterMap_cons, List.filterMap_nil, List.getElem?_toArray, List.getElem?_cons_succ, List.getElem?_cons_zero]; rfl) (fun _ _ d _ _ h => by cases d <;> exact h) (gb_drew (Nw.refl w5)) ?_
    refine wpYield_load_agg 35 _ rfl rfl rfl (s1.map bv) (fun w' hw' => HC1.out w' hw') _ Tryd.underlying35 rfl hsz1 ?_
    refine wpYield_load_agg 35 _ rfl rfl rfl (s0.map bv) (fun w' hw' => HC0.out w' hw') _ Tryd.underlying35 rfl hsz0 ?_
    refine wpYield_nil ?_
    refine U_segP (r := [14]) (fuel := 3) rfl (by kernel_rfl) (by kernel_rfl) (by simp only [List.filterMap_cons, List.filterMap_nil, List.getElem?_toArray, List.getElem?_cons_succ, List.getElem?_cons_zero]; rfl) (fun _ _ d _ _ h => by cases d <;> exact h) (until_of (gb_drew (Nw.refl w5))) ?_
    (refine wpYield_step rfl (fun K hK => ?_)
     apply Exists.intro
     refine ⟨fun w' hw' => ?_, ?_⟩
     · (go_simp; try with_reducible rfl)
     go_simp
     refine hK _ ?_
     clear hK K)
    refine wpYield_nil ?_
    refine U_eff 15 rfl (by kernel_rfl) rfl (fun K hK => ?_)
    refine wp_store_own (cs := s1.map bv) (off := q * 64) 35 _ _ rfl rfl rfl rfl hsz1 (bv_one s1) O5.out.drew (by rw [List.length_map, L1.out]; omega) ?_
    intro w6 o6 m6
    rw [setSec_splice L1.out] at o6
    have O6 := Lib.hid o6
    have N6 := Lib.hid (nw_of_gb (gb_drew N5.out) m6 (by intro r hr; injection hr with hr; subst hr; exact hz))
    clear o6 m6
    refine hK _ _ ⟨until_past (by kernel_rfl), ?_⟩
    clear hK K
    refine U_segP (r := [16]) (fuel := 1) rfl (by kernel_rfl) (by kernel_rfl) (by simp only [List.filterMap_cons, List.filterMap_nil, List.getElem?_toArray, List.getElem?_cons_succ, List.getElem?_cons_zero]; rfl) (fun _ _ d _ _ h => by cases d <;> exact h) (until_past (by kernel_rfl)) ?_
    (refine wpYield_step rfl (fun K hK => ?_)
     apply Exists.intro
     refine ⟨fun w' hw' => ?_, ?_⟩
     · (go_simp; try with_reducible rfl)
     go_simp
     refine hK _ ?_
     clear hK K)
    refine wpYield_nil ?_
    refine U_eff 17 rfl (by kernel_rfl) rfl (fun K hK => ?_)
    refine wp_store_own (cs := s0.map bv) (off := (q + 1) * 64) 35 _ _ rfl rfl rfl rfl hsz0 (bv_one s0) O6.out (by rw [List.length_map, L0.out]; omega) ?_
    intro w7 o7 m7
    rw [setSec_splice L0.out] at o7
    have O7 := Lib.hid o7
    have N7 := Lib.hid (nw_of_gb N6.out m7 (by intro r hr; injection hr with hr; subst hr; exact hz))
    clear o7 m7 HC0 HC1
    refine hK _ _ ⟨until_past (by kernel_rfl), ?_⟩
    clear hK K
    refine U_done (by kernel_rfl) ?_ _
    go_wp2_with (refine (HJ2.out _ _ _ _ O7.out).mono ?_; rintro e w8 ⟨A8, m8, c8, rfl, n8⟩)
    go_ret
    exact ⟨rfl, gb_trans N7.out n8⟩
end Go.Proofs.YtlfkeohlnhlcoaaDoor

