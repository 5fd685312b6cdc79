/- The Go function RecordOther returns true for all ints and every slice of bytes, and only makes new memory; without conditions. -/
import Derived.Test.YtlfkeohlnhlcoaaDoorHW
import Derived.Test.YtlfkeohlnhlcoaaDoorFr
namespace Go.Proofs.YtlfkeohlnhlcoaaDoor
open Go.RowKit Go.BW
theorem join_alien {g n : Int} (g0 : 0 ≤ g) (g1 : g ≤ 4294967295) (n0 : 0 ≤ n) (n1 : n ≤ 4294967295) {bs : List UInt8} {N : Nat} (hN : partsZ bs.length = (N : Int)) (h0 : N ≠ 0) {g' n' : Int} (hne : ¬ (g = g' ∧ n = n')) :
    joinB g' n' N (splitN g n N bs N) = false :=
  join_bad (k := 0) (by omega) (by rw [splitN_at (by omega), fit_sec g0 g1 n0 n1 hN (by omega), decide_eq_false_iff_not]; rintro ⟨h1, h2, _⟩; exact hne ⟨h1, h2⟩)
set_option maxRecDepth 100000 in
set_option maxHeartbeats 8000000 in
theorem other_walk (g : Int) (_ : -9223372036854775808 ≤ g ∧ g ≤ 9223372036854775807) (nn : Int) (_ : -9223372036854775808 ≤ nn ∧ nn ≤ 9223372036854775807) {w : World} (A : Option Addr) (n c : Nat) (bs : List UInt8) (hin : InB w A n c bs)
    (o : Int) (_ : -9223372036854775808 ≤ o ∧ o ≤ 9223372036854775807) (x : Int) (_ : -9223372036854775808 ≤ x ∧ x ≤ 9223372036854775807) (at_ : Int) (_ : -9223372036854775808 ≤ at_ ∧ at_ ≤ 9223372036854775807) :
    Calls Tryd.prog 6 #[.int .i64 g, .int .i64 nn, .slice A n c, .int .i64 o, .int .i64 x, .int .i64 at_] w (Ret (.bool true) w) := by
  obtain ⟨hr, hc, hcm, hl⟩ := hin
  obtain ⟨k, hk, hkn, hk2⟩ := cut_len n 2120
  have HK := Lib.hid (show (if (2120 : Int) < (n : Int) then (2120 : Int) else (n : Int)) = (k : Int) from hk)
  have hrk := hr.take (size := 1) hkn
  rw [Nat.mul_one, ← List.map_take] at hrk
  have hlk : (bs.take k).length = k := by rw [List.length_take]; omega
  generalize bs.take k = bk at *
  clear hr hl hk
  unfold maxLen at hcm
  have hkc : k ≤ c := by omega
  have HS := Lib.hid (fun w' => shown_any w')
  obtain ⟨g', eg, g0, g1⟩ := and_32 g
  obtain ⟨m', em, m0, m1⟩ := and_32 nn
  obtain ⟨o', eo, o0, o1⟩ := and_32 o
  obtain ⟨x', ex, x0, x1⟩ := and_32 x
  obtain ⟨a, ea, ha⟩ := and_255 at_
  obtain ⟨N, hN, hN0, hN40⟩ := parts_some hk2
  have hN' : partsZ bk.length = (N : Int) := by rw [hlk]; exact hN
  have HL := Lib.hid (split_good g0 g1 m0 m1 hN' hN0)
  have HL2 := Lib.hid (split_good o0 o1 x0 x1 hN' hN0)
  have HRK := Lib.hid hrk
  unfold Ret at HS
  have hgr : g' ≤ 9223372036854775807 := by omega
  have HSP := Lib.hid (fun (w' : World) (h : Nw w w') => show Calls Tryd.prog 11 #[.int .i64 g', .int .i64 m', .slice A k c] w' (RetOwn 35 64 ((splitN g' m' N bk N).map bv) w') from by
    have := split_any (g := g') (nn := m') (d := c) ((HRK.out.nw h (Nat.le_refl _)).more h.size) (by omega) (by unfold maxLen; omega)
    rwa [HL.out] at this)
  have HSQ := Lib.hid (fun (w' : World) (h : Nw w w') => show Calls Tryd.prog 11 #[.int .i64 o', .int .i64 x', .slice A k c] w' (RetOwn 35 64 ((splitN o' x' N bk N).map bv) w') from by
    have := split_any (g := o') (nn := x') (d := c) ((HRK.out.nw h (Nat.le_refl _)).more h.size) (by omega) (by unfold maxLen; omega)
    rwa [HL2.out] at this)
  by_cases hsame : g' = o' ∧ m' = x'
  · obtain ⟨rfl, rfl⟩ := hsame
    clear HSP HSQ HL HL2 HRK hrk
    go_enter Tryd.func6, Tryd.ntmps6
    go_wp2_with (first | (refine wpList_slice_hi 22 5 Tryd.underlying22 (size := 1) (by kernel_rfl) _ _ rfl rfl A n c k rfl rfl hkc ?_) | (refine wpList_min_int _ _ _ rfl rfl (n : Int) 2120 rfl rfl HK.out ?_) | ((with_reducible refine (HS.out _).mono ?_); rintro e w1 ⟨rfl, n1⟩))
    go_ret
    exact ⟨rfl, n1⟩
  have J1 := Lib.hid (join_alien g0 g1 m0 m1 hN' hN0 hsame)
  have hsame' : ¬ (o' = g' ∧ x' = m') := by rintro ⟨rfl, rfl⟩; exact hsame ⟨rfl, rfl⟩
  have hi : a % N < N := Nat.mod_lt _ (by omega)
  obtain ⟨i, hii⟩ : ∃ i, a % N = i := ⟨_, rfl⟩
  rw [hii] at hi
  have hit : ((a : Int)).tmod (N : Int) = (i : Int) := by rw [← hii]; exact Int.ofNat_tmod _ _
  have HX := Lib.hid (splitN_len g' m' N bk N)
  have hYl := splitN_len o' x' N bk N
  have HAT := Lib.hid (splitN_at (g := o') (n := x') (N := N) (bs := bk) hi)
  have hs64 := secI_len o' x' N bk i
  have J2 : ∀ X : List UInt8, X.length = N * 64 → joinB g' m' N (setSec X i (secI o' x' N bk i)) = false := by
    intro X hX
    refine join_bad hi ?_
    rw [setSec_at hs64 (by omega), fit_sec o0 o1 x0 x1 hN' hi, decide_eq_false_iff_not]
    rintro ⟨h1, h2, _⟩; exact hsame' ⟨h1, h2⟩
  have J2' := Lib.hid (J2 _ HX.out)
  obtain ⟨X, hX⟩ : ∃ X, splitN g' m' N bk N = X := ⟨_, rfl⟩
  obtain ⟨Y, hY⟩ : ∃ Y, splitN o' x' N bk N = Y := ⟨_, rfl⟩
  obtain ⟨s, hs⟩ : ∃ s, secI o' x' N bk i = s := ⟨_, rfl⟩
  rw [hX] at HSP HX J1 J2'
  rw [hY] at HSQ HAT hYl
  rw [hs] at HAT hs64 J2'
  have HS64 := Lib.hid hs64
  have hN1 : ((N : Int) == 0) = false := by simp; omega
  have hg1 : (g' == o' && m' == x') = false := by rw [Bool.eq_false_iff]; intro h; simp at h; exact hsame h
  have HJ1 := Lib.hid (fun (w' : World) (A1 : Option Addr) (c1 B1 : Nat) (h : Own w' B1 35 64 A1 N c1 (X.map bv)) => show Calls Tryd.prog 18 #[.int .i64 o', .int .i64 x', .slice A1 N c1] w' (fun e w'' => ∃ A m c, e = .returned (.tuple #[.slice A m c, .bool false]) ∧ Nw w' w'') from by
    refine (join_any h.rd (by omega)).mono ?_
    rintro e w'' ⟨A, m, c, rfl, h1, h2⟩
    exact ⟨A, m, c, by rw [J1.out], h2⟩)
  have HJ2 := Lib.hid (fun (w' : World) (A1 : Option Addr) (c1 B1 : Nat) (h : Own w' B1 35 64 A1 N c1 ((setSec X i s).map bv)) => show Calls Tryd.prog 18 #[.int .i64 g', .int .i64 m', .slice A1 N c1] w' (fun e w'' => ∃ A m c, e = .returned (.tuple #[.slice A m c, .bool false]) ∧ Nw w' w'') from by
    refine (join_any h.rd (by omega)).mono ?_
    rintro e w'' ⟨A, m, c, rfl, h1, h2⟩
    exact ⟨A, m, c, by rw [J2'.out], h2⟩)
  clear HL HL2 HRK hrk J1 J2 J2' hs hX hY hsame' hN' hN hs64 hii
  have HCY := Lib.hid (fun (w' : World) (z B c1 : Nat) (h : Own w' B 35 64 (some ⟨z, 0, none⟩) N c1 (Y.map bv)) => show ∀ j u, (s.map bv)[j]? = some u → w'.cell? ⟨z, i * 64 + j, none⟩ = some u from by
    intro j u hu
    obtain ⟨b, off, e, _, _, hc⟩ := h.rd.atN hi (by decide)
    injection e with e; injection e with e1 e2; subst e1; subst e2
    have := hc j u (by rw [← List.map_drop, ← List.map_take]; change ((secAt Y i).map bv)[j]? = some u; rw [HAT.out]; exact hu)
    rwa [Nat.zero_add] at this)
  have hfit : i * 64 + (s.map bv).length ≤ N * 64 := by rw [List.length_map, HS64.out]; omega
  have hsz : (Tryd.prog.info? 35).map (·.size) = some (s.map bv).length := by rw [List.length_map, HS64.out]; kernel_rfl
  have hone := bv_one s
  have HST := Lib.hid (show splice (X.map bv) (i * 64) (s.map bv) = (setSec X i s).map bv from setSec_splice HS64.out)
  have hni : ∀ {w' : World} {B m : Nat} {A1 : Option Addr} {c1 : Nat} {xs : List UInt8}, xs.length = N * 64 → Own w' B 35 64 A1 m c1 (xs.map bv) → N = m := by
    intro w' B m A1 c1 xs h1 h2; have := h2.len; rw [List.length_map] at this; omega
  have HY := Lib.hid hYl
  have hiN : (i : Int) < (N : Int) := by omega
  clear hYl
  rcases e1 : (g' == o') with _ | _
  · clear hg1 hsame
    go_enter Tryd.func6, Tryd.ntmps6
    go_wp2_with (first | (refine (HJ2.out _ _ _ _ O5.out).mono ?_; rintro e w7 ⟨A7, m7, c7, rfl, n7⟩) | (refine wpList_store_own (cs := s.map bv) (off := i * 64) 35 _ _ rfl rfl rfl rfl rfl hsz hone O4.out hfit ?_; intro w5 o5 m5; rw [HST.out] at o5; have O5 := Lib.hid o5; have N5 := Lib.hid (nw_of_gb N4.out m5 (by intro r hr; injection hr with hr; subst hr; exact Nat.le_trans n1.size hy)); clear o5 m5) | (refine wpList_load_agg 35 _ rfl rfl rfl (s.map bv) (HCY.out _ _ _ _ Q4.out) _ Tryd.underlying35 rfl hsz ?_) | (refine (HJ1.out _ _ _ _ O3.out).mono ?_; rintro e w4 ⟨A4, m4, c4, rfl, n4⟩; have O4 := Lib.hid (O3.out.nw n4); have Q4 := Lib.hid (Q3.out.nw n4); have N4 := Lib.hid (gb_trans N3.out n4); clear n4) | (refine (HSQ.out _ N2.out).mono ?_; rintro e w3 ⟨A3, m3, c3, rfl, o3, n3⟩; have e3 := hni HY.out o3; subst e3; obtain ⟨z, rfl, hz⟩ := o3.some_ (Nat.pos_of_ne_zero hN0); have O3 := Lib.hid (O2.out.nw n3); have Q3 := Lib.hid o3; have N3 := Lib.hid (gb_trans N2.out n3); clear o3 n3 hz) | (refine (HSP.out _ n1).mono ?_; rintro e w2 ⟨A2, m2, c2, rfl, o2, n2⟩; have e2 := hni HX.out o2; subst e2; obtain ⟨y, rfl, hy⟩ := o2.some_ (Nat.pos_of_ne_zero hN0); have O2 := Lib.hid o2; have N2 := Lib.hid (gb_trans n1 n2); clear o2 n2) | (refine wpList_slice_hi 22 5 Tryd.underlying22 (size := 1) (by kernel_rfl) _ _ rfl rfl A n c k rfl rfl hkc ?_) | (refine wpList_min_int _ _ _ rfl rfl (n : Int) 2120 rfl rfl HK.out ?_) | ((with_reducible refine (HS.out _).mono ?_); rintro e w1 ⟨rfl, n1⟩))
    go_ret
    exact ⟨rfl, gb_trans N5.out n7⟩
  · have e2 : (m' == x') = false := by rw [e1] at hg1; simpa using hg1
    clear hg1 hsame
    go_enter Tryd.func6, Tryd.ntmps6
    go_wp2_with (first | (refine (HJ2.out _ _ _ _ O5.out).mono ?_; rintro e w7 ⟨A7, m7, c7, rfl, n7⟩) | (refine wpList_store_own (cs := s.map bv) (off := i * 64) 35 _ _ rfl rfl rfl rfl rfl hsz hone O4.out hfit ?_; intro w5 o5 m5; rw [HST.out] at o5; have O5 := Lib.hid o5; have N5 := Lib.hid (nw_of_gb N4.out m5 (by intro r hr; injection hr with hr; subst hr; exact Nat.le_trans n1.size hy)); clear o5 m5) | (refine wpList_load_agg 35 _ rfl rfl rfl (s.map bv) (HCY.out _ _ _ _ Q4.out) _ Tryd.underlying35 rfl hsz ?_) | (refine (HJ1.out _ _ _ _ O3.out).mono ?_; rintro e w4 ⟨A4, m4, c4, rfl, n4⟩; have O4 := Lib.hid (O3.out.nw n4); have Q4 := Lib.hid (Q3.out.nw n4); have N4 := Lib.hid (gb_trans N3.out n4); clear n4) | (refine (HSQ.out _ N2.out).mono ?_; rintro e w3 ⟨A3, m3, c3, rfl, o3, n3⟩; have e3 := hni HY.out o3; subst e3; obtain ⟨z, rfl, hz⟩ := o3.some_ (Nat.pos_of_ne_zero hN0); have O3 := Lib.hid (O2.out.nw n3); have Q3 := Lib.hid o3; have N3 := Lib.hid (gb_trans N2.out n3); clear o3 n3 hz) | (refine (HSP.out _ n1).mono ?_; rintro e w2 ⟨A2, m2, c2, rfl, o2, n2⟩; have e2 := hni HX.out o2; subst e2; obtain ⟨y, rfl, hy⟩ := o2.some_ (Nat.pos_of_ne_zero hN0); have O2 := Lib.hid o2; have N2 := Lib.hid (gb_trans n1 n2); clear o2 n2) | (refine wpList_slice_hi 22 5 Tryd.underlying22 (size := 1) (by kernel_rfl) _ _ rfl rfl A n c k rfl rfl hkc ?_) | (refine wpList_min_int _ _ _ rfl rfl (n : Int) 2120 rfl rfl HK.out ?_) | ((with_reducible refine (HS.out _).mono ?_); rintro e w1 ⟨rfl, n1⟩))
    go_ret
    exact ⟨rfl, gb_trans N5.out n7⟩
end Go.Proofs.YtlfkeohlnhlcoaaDoor

