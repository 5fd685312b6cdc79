/- The Go function RecordSays returns true for all ints and every slice of bytes, and only makes new memory; without conditions. -/
import Derived.Test.YtlfkeohlnhlcoaaDoorHW
import Derived.Test.YtlfkeohlnhlcoaaDoorFr
namespace Go.Proofs.YtlfkeohlnhlcoaaDoor
open Go.RowKit Go.BW
theorem piece_at (bs : List UInt8) (i : Nat) : ((bs.take (i * 53)).length : Int) + ((pieceL bs i).length : Int) = ((bs.take ((i + 1) * 53)).length : Nat) := by
  rw [← piece_snoc, List.length_append]; omega
theorem piece_min (bs : List UInt8) (i n : Nat) (h : bs.length = n) (hi : i * 53 ≤ n) : (if (n : Int) - ((bs.take (i * 53)).length : Nat) < 53 then (n : Int) - ((bs.take (i * 53)).length : Nat) else 53) = ((pieceL bs i).length : Nat) := by
  unfold pieceL
  rw [List.length_take, List.length_take, List.length_drop]
  split <;> omega
set_option maxRecDepth 100000 in
set_option maxHeartbeats 8000000 in
theorem says_walk (g : Int) (_ : -9223372036854775808 ≤ g ∧ g ≤ 9223372036854775807) (nn : Int) (_ : -9223372036854775808 ≤ nn ∧ nn ≤ 9223372036854775807) {w : World} (A : Option Addr) (n c : Nat) (bs : List UInt8) (hin : InB w A n c bs) :
    Calls Tryd.prog 8 #[.int .i64 g, .int .i64 nn, .slice A n c] w (Ret (.bool true) w) := by
  obtain ⟨hr, hc, hcm, hl⟩ := hin
  obtain ⟨k, hk, hkn, hk2⟩ := cut_len n 2120
  have HK := Lib.hid (show (if (2120 : Int) < (n : Int) then (2120 : Int) else (n : Int)) = (k : Int) from hk)
  have hrk := hr.take (size := 1) hkn
  rw [Nat.mul_one, ← List.map_take] at hrk
  have hlk : (bs.take k).length = k := by rw [List.length_take]; omega
  generalize bs.take k = bk at *
  clear hr hl hk
  unfold maxLen at hcm
  have HLK := Lib.hid hlk
  have hkc : k ≤ c := by omega
  have HS := Lib.hid (fun w' => shown_any w')
  obtain ⟨g', eg, g0, g1⟩ := and_32 g
  obtain ⟨m', em, m0, m1⟩ := and_32 nn
  obtain ⟨N, hN, hN0, hN40⟩ := parts_some hk2
  have hN' : partsZ bk.length = (N : Int) := by rw [hlk]; exact hN
  have HL := Lib.hid (split_good g0 g1 m0 m1 hN' hN0)
  have HRK := Lib.hid hrk
  have HNN := Lib.hid hN'
  have HG := Lib.hid (show (0 ≤ g' ∧ g' ≤ 4294967295) ∧ (0 ≤ m' ∧ m' ≤ 4294967295) from ⟨⟨g0, g1⟩, ⟨m0, m1⟩⟩)
  clear hlk hrk hN hN' g0 g1 m0 m1
  unfold Ret at HS
  have HSP := Lib.hid (fun (w' : World) (h : Nw w w') => show Calls Tryd.prog 11 #[.int .i64 g', .int .i64 m', .slice A k c] w' (RetOwn 35 64 ((splitN g' m' N bk N).map bv) w') from by
    have := split_any (g := g') (nn := m') (d := c) ((HRK.out.nw h (Nat.le_refl _)).more h.size) (by omega) (by unfold maxLen; omega)
    rwa [HL.out] at this)
  go_enter Tryd.func8, Tryd.ntmps8
  go_wp2_with (first
    | (refine (HSP.out _ n1).mono ?_; rintro e w3 ⟨A3, m3, c3, rfl, o3, n3⟩; have N3 := Lib.hid (gb_trans n1 n3); have e3 : N = m3 := (by have := o3.len; rw [List.length_map, splitN_len] at this; omega); subst e3)
    | (refine wpList_slice_hi 22 5 Tryd.underlying22 (size := 1) (by kernel_rfl) _ _ rfl rfl A n c k rfl rfl hkc ?_)
    | (refine wpList_min_int _ _ _ rfl rfl (n : Int) 2120 rfl rfl HK.out ?_)
    | ((with_reducible refine (HS.out _).mono ?_); rintro e w1 ⟨rfl, n1⟩))
  have O3 := Lib.hid o3; have N1 := Lib.hid n1
  clear o3 n3 n1 HSP HL HS HK eg em
  go_loopw [9, 10] (fun a i wr => ∃ q : Nat, q ≤ N ∧ i = .int .i64 q ∧ a = .int .i64 ((bk.take (q * 53)).length : Nat) ∧ Nw w3 wr) (fun _ i _ => N - (intOf i).toNat)
  case atStart => exact ⟨0, Nat.zero_le _, rfl, by simp, Nw.refl _⟩
  case round =>
    obtain ⟨q, hq, rfl, rfl, hnw⟩ := hrel
    by_cases hlt : q < N
    · obtain ⟨⟨g0, g1⟩, ⟨m0, m1⟩⟩ := HG.out
      obtain ⟨hsay, htag⟩ := sec_says g0 g1 m0 m1 HNN.out hlt
      obtain ⟨hpl, _, _⟩ := pieceL_len HNN.out hlt
      have hq53 : q * 53 ≤ k := by have := parts_room HNN.out hlt; rw [HLK.out] at this; exact this
      have hnext := piece_at bk q
      have hmin := piece_min bk q k HLK.out hq53
      have hta : (bk.take (q * 53)).length = q * 53 := by rw [List.length_take, HLK.out]; omega
      have hle : (bk.take ((q + 1) * 53)).length ≤ k := by rw [List.length_take, HLK.out]; omega
      have hpc : (bk.drop (q * 53)).take (pieceL bk q).length = pieceL bk q := by
        unfold pieceL; rw [List.length_take]
        by_cases h : 53 ≤ (bk.drop (q * 53)).length
        · rw [Nat.min_eq_left h]
        · rw [Nat.min_eq_right (by omega), List.take_of_length_le (Nat.le_refl _), List.take_of_length_le (by omega)]
      obtain ⟨b, off, rfl, hx⟩ := (O3.out.nw hnw).rd.elem hlt (by decide)
      rw [← List.map_drop, ← List.map_take] at hx
      change Rd wr wr.heap.size 1 (some ⟨b, off + q * 64, none⟩) 64 ((secAt (splitN g' m' N bk N) q).map bv) at hx
      rw [splitN_at hlt] at hx
      have hs64 := secI_len g' m' N bk q
      obtain ⟨s, hs⟩ : ∃ s, secI g' m' N bk q = s := ⟨_, rfl⟩
      rw [hs] at hx hs64 hsay htag
      have HT := Lib.hid (fun w' => tagof_any s hs64 w')
      rw [tagV_yes htag, hsay.gen, hsay.num, hsay.part, hsay.parts, hsay.len] at HT
      have hheld := hsay.held
      have hlen := hsay.len
      obtain ⟨ps, hps⟩ : ∃ ps, pieceL bk q = ps := ⟨_, rfl⟩
      rw [hps] at HT hpl hmin hnext hpc hheld hlen
      obtain ⟨l, hl⟩ : ∃ l, ps.length = l := ⟨_, rfl⟩
      rw [hl] at HT hpl hmin hnext hpc hlen
      obtain ⟨a, ha⟩ : ∃ a, (bk.take (q * 53)).length = a := ⟨_, rfl⟩
      obtain ⟨a', ha'⟩ : ∃ a', (bk.take ((q + 1) * 53)).length = a' := ⟨_, rfl⟩
      have HA' := Lib.hid ha'
      rw [ha] at hmin hnext hta ⊢
      rw [ha'] at hnext hle
      obtain ⟨L, hL⟩ : ∃ L, s.map bv = L := ⟨_, rfl⟩
      rw [hL] at hx HT
      have HHR := Lib.hid (fun (w' : World) (B : Nat) (h : Rd w' B 1 (some ⟨b, off + q * 64, none⟩) 64 L) => show Rd w' B 1 (some ⟨b, off + q * 64 + 11, none⟩) l (ps.map bv) from by
        have := held_rd h hL hlen hs64 hpl; rwa [hheld] at this)
      have hcut := HRK.out.cut (l := a) (h := a + l) (by omega) (by omega) hkc
      rw [Nat.mul_one, Nat.mul_one, ← List.map_take, ← List.map_drop, List.drop_take, Nat.add_sub_cancel_left, show a = q * 53 from hta, hpc, ← hta] at hcut
      obtain ⟨A', hA⟩ : ∃ A', cutA A c a 1 = A' := ⟨_, rfl⟩
      obtain ⟨c', hc'⟩ : ∃ c', c - a = c' := ⟨_, rfl⟩
      rw [hA] at hcut
      have hcl : ∀ j u, L[j]? = some u → wr.cell? ⟨b, off + q * 64 + j, none⟩ = some u := by
        intro j u hu
        obtain ⟨b', o', e, _, hc⟩ := hx.2 (by decide)
        injection e with e; injection e with e1 e2; subst e1; subst e2
        exact hc j u hu
      have HLL := Lib.hid (show L.length = 64 by have := hx.1; omega)
      have HCL := Lib.hid hcl; have HX := Lib.hid hx; have HCUT := Lib.hid hcut; have HA := Lib.hid hA; have HC := Lib.hid hc'; have HMIN := Lib.hid hmin
      have hlt' : (q : Int) < (N : Int) := by omega
      have hal : a + l ≤ k := by omega
      have HNX := Lib.hid hnext
      clear hcl hx hcut hA hc' hmin hps hL hs hsay htag hs64 hpc hl hheld hlen ha ha' hta hnext hq53
      unfold Ret tv at HT
      go_upto_region 11 with (first | ((with_reducible refine (HT.out _).mono ?_); rintro e w5 ⟨rfl, n5⟩) | (refine wpList_load_agg 35 _ rfl rfl rfl L HCL.out _ Tryd.underlying35 rfl (by rw [HLL.out]; kernel_rfl) ?_))
      have ho := Obj1.new w5 31 #[.int .i64 g', .int .i64 m', .int .i64 q, .int .i64 N, .int .i64 l]
      have hn6 := gb_trans n5 (World.grownBy_alloc w5 (.cells #[.int .i64 g', .int .i64 m', .int .i64 q, .int .i64 N, .int .i64 l] 31) none)
      obtain ⟨W, hW⟩ : ∃ W, w5.alloc (.cells #[.int .i64 g', .int .i64 m', .int .i64 q, .int .i64 N, .int .i64 l] 31) = W := ⟨_, rfl⟩
      obtain ⟨y, hy⟩ : ∃ y, w5.heap.size = y := ⟨_, rfl⟩
      rw [hW] at ho hn6 ⊢
      rw [hy] at ho ⊢
      have NW := Lib.hid (gb_trans hnw hn6)
      have HRD := Lib.hid (fun (w' : World) (h : Nw W w') => HHR.out w' _ (HX.out.nw (gb_trans hn6 h) (Nat.le_refl _)))
      have HRC := Lib.hid (fun (w' : World) (h : Nw W w') => HCUT.out.nw (gb_trans (gb_trans N3.out (gb_trans hnw hn6)) h) (Nat.le_refl _))
      have k0 : ∀ w', Nw W w' → w'.cell? ⟨y, 0, none⟩ = some (.int .i64 g') := fun w' h => (ho.nw h).cell 0
      have k1 : ∀ w', Nw W w' → w'.cell? ⟨y, 1, none⟩ = some (.int .i64 m') := fun w' h => (ho.nw h).cell 1
      have k2 : ∀ w', Nw W w' → w'.cell? ⟨y, 2, none⟩ = some (.int .i64 q) := fun w' h => (ho.nw h).cell 2
      have k3 : ∀ w', Nw W w' → w'.cell? ⟨y, 3, none⟩ = some (.int .i64 N) := fun w' h => (ho.nw h).cell 3
      have k4 : ∀ w', Nw W w' → w'.cell? ⟨y, 4, none⟩ = some (.int .i64 l) := fun w' h => (ho.nw h).cell 4
      have hS := part_sliceO b (off + q * 64) l hpl
      have hw1 : IntKind.i64.wrap (11 + (l : Int)) = 11 + (l : Int) := IntWalk.i64_in _ (by omega)
      have hw2 : IntKind.i64.wrap ((a : Int) + (l : Int)) = (a : Int) + (l : Int) := IntWalk.i64_in _ (by omega)
      have hw3 : IntKind.i64.wrap ((k : Int) - (a : Int)) = (k : Int) - (a : Int) := IntWalk.i64_in _ (by omega)
      have he2 : (a : Int) + (l : Int) = ((a + l : Nat) : Int) := by omega
      have HE2 := Lib.hid he2
      have k5 : W.cell? ⟨y, 4, none⟩ = some (.int .i64 l) := ho.cell 4
      have hacl : a + l ≤ c := by omega
      clear hW hy ho hn6 n5 HX HT HCL HLL HHR HCUT he2
      refine wp_region_held (S := (fun w' => Nw W w')) (by kernel_rfl) ?_
      change wpAnyH _ _ _ _ _ _ _ _ (World.drew W)
      refine held_seg' (l := [0, 1, 2, 3, 4, 5, 6, 7, 8, 9, 10, 11, 12, 13, 14, 15, 16, 17, 18, 19, 20, 21, 22, 23, 24, 25, 26, 27, 28, 29, 30, 31, 32, 33, 34, 35, 36, 37, 38, 39, 40, 41, 42, 43, 44, 45, 46, 47, 48, 49, 50, 51, 52, 53, 54, 55]) (fuel := 0) rfl (by kernel_rfl) (by kernel_rfl) (by simp only [List.filterMap_cons, List.filterMap_nil, List.getElem?_toArray, List.getElem?_cons_succ, List.getElem?_cons_zero]; rfl) (fun _ _ d _ _ h => by cases d <;> exact h) (gb_drew (Nw.refl W)) ?_
      iterate 34 (refine wpYield_step rfl (fun K hK => ?_)
                  apply Exists.intro
                  refine ⟨fun w' hw' => ?_, ?_⟩
                  · (go_simp; try with_reducible rfl)
                  go_simp
                  refine hK _ ?_
                  clear hK K)
      refine wpYield_min_int _ _ _ rfl rfl 53 ((k : Int) - (a : Int)) rfl rfl HMIN.out ?_
      iterate 10 (refine wpYield_step rfl (fun K hK => ?_)
                  apply Exists.intro
                  refine ⟨fun w' hw' => ?_, ?_⟩
                  · (go_simp; try with_reducible rfl)
                  go_simp
                  refine hK _ ?_
                  clear hK K)
      refine wpYield_bytes_str 22 9 5 Tryd.underlying22 Tryd.underlying5 Tryd.underlying9 _ rfl rfl rfl (fun w' hw' => HRD.out w' hw') ?_
      iterate 6 (refine wpYield_step rfl (fun K hK => ?_)
                 apply Exists.intro
                 refine ⟨fun w' hw' => ?_, ?_⟩
                 · (go_simp; try with_reducible rfl)
                 go_simp
                 refine hK _ ?_
                 clear hK K)
      refine wpYield_slice_lh 22 5 Tryd.underlying22 1 (by kernel_rfl) _ _ _ rfl rfl A k c a (a + l) _ _ rfl rfl rfl rfl HE2.out (Nat.le_add_right _ _) hacl HA.out (Nat.add_sub_cancel_left _ _) HC.out ?_
      refine wpYield_bytes_str 22 9 5 Tryd.underlying22 Tryd.underlying5 Tryd.underlying9 _ rfl rfl rfl (fun w' hw' => HRC.out w' hw') ?_
      iterate 2 (refine wpYield_step rfl (fun K hK => ?_)
                 apply Exists.intro
                 refine ⟨fun w' hw' => ?_, ?_⟩
                 · (go_simp; try with_reducible rfl)
                 go_simp
                 refine hK _ ?_
                 clear hK K)
      refine wpYield_nil ?_
      refine wpAnyH_done (by kernel_rfl) ?_ _
      clear k0 k1 k2 k3 k4 hS HRD HRC HMIN
      go_wp2
      go_roundw
      case rel => exact ⟨q + 1, by omega, by go_num, by rw [HA'.out, ← HNX.out], gb_drew NW.out⟩
      case measure => simp only [intOf]; omega
    · have hqN : q = N := by omega
      subst hqN
      have e : (bk.take (q * 53)).length = k := by
        have h := (parts_all HNN.out hN0).1
        rw [HLK.out] at h
        rw [List.length_take, HLK.out]; omega
      rw [e]
      have hN1 : (0 : Int) < (q : Int) := by omega
      have hN2 : decide (0 < q) = true := by simp; omega
      clear e
      have NW := Lib.hid (gb_trans N3.out hnw)
      go_wp2
      go_ret
      exact ⟨rfl, NW.out⟩
end Go.Proofs.YtlfkeohlnhlcoaaDoor

