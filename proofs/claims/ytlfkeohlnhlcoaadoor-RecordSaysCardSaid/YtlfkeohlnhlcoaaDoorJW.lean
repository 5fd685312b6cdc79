/- The walk of Join. -/
import Derived.Test.YtlfkeohlnhlcoaaDoorJO
import Derived.Deep.DeepCutAuto
namespace Go.Proofs.YtlfkeohlnhlcoaaDoor
open Go.RowKit Go.BW

theorem tagV_no5 {s : List UInt8} (h : tagB s = false) : tagV s = .tuple #[.agg #[.int .i64 0, .int .i64 0, .int .i64 0, .int .i64 0, .int .i64 0], .bool false] := tagV_no h
theorem buf_small {w : World} {b : Nat} {x : List UInt8} (h : Lib.IsBuffer 58 5 b b (x.map bv) w) : ∀ v ∈ x.map bv, v.oneCell' = true := bv_one x
theorem part_slice (y l : Nat) (h : l ≤ 53) : ∀ w' : World, (Instr.sliceAt 35 (.pointer (some ⟨y, 0, none⟩)) (some (.int .i64 11)) (some (.int .i64 (11 + (l : Int)))) none).run Tryd.prog w' = .ok (.slice (some ⟨y, 11, none⟩) l 53) w' := by
  intro w'
  have := run_arr_part 35 5 64 Tryd.underlying35 (by kernel_rfl) y 11 (11 + l) (some (.int .i64 11)) (some (.int .i64 (11 + (l : Int)))) (by omega) (by omega) (.inl rfl) (.inl (by rw [Int.natCast_add]; rfl)) w'
  rw [this, if_neg (by decide), Nat.add_sub_cancel_left]
theorem held_src {w : World} {s : List UInt8} {L : List Value} {y l : Nat} (hL : s.map bv = L) (hb : b10 s = l) (hs : s.length = 64) (hl : l ≤ 53) (ho : Obj1 w y 35 L.toArray) (X : Obj) :
    ∀ j v, ((heldL s).map bv)[j]? = some v → (w.alloc X).cell? ((⟨y, 11, none⟩ : Addr).add j) = some v := by
  intro j v hv
  have ho2 : Obj1 (w.alloc X) y 35 L.toArray := ho.nw (World.grownBy_alloc w X none)
  rw [show (⟨y, 11, none⟩ : Addr).add j = ⟨y, 11 + j, none⟩ from by unfold Addr.add; split <;> simp_all, ho2.cell, ← hL]
  have hj : j < l := by
    have := (List.getElem?_eq_some_iff.1 hv).1
    rw [List.length_map] at this
    unfold heldL at this
    rw [List.length_take] at this; omega
  unfold heldL at hv
  rw [List.getElem?_map, List.getElem?_take, if_pos (by omega), List.getElem?_drop] at hv
  simpa [List.getElem?_map] using hv
theorem row_slice {w : World} {B e n : Nat} {v : Value} {xs : List Value} (h : w.ownsRow B e 1 v n xs) : ∃ A m c, v = .slice A m c ∧ Own w B e 1 A m c xs := by
  rcases h.2 with ⟨rfl, h0⟩ | ⟨g, cap, cur, rfl, _⟩
  · subst h0; exact ⟨none, 0, 0, rfl, h⟩
  · exact ⟨_, _, _, rfl, h⟩
set_option maxHeartbeats 4000000 in
theorem join_any {A : Option Addr} {N d : Nat} {bs : List UInt8} {w : World} {g nn : Int} (hr : Rd w w.heap.size 64 A N (bs.map bv)) (hN : N ≤ 1000000) :
    Calls Tryd.prog 18 #[.int .i64 g, .int .i64 nn, .slice A N d] w (JoinPost g nn N bs w) := by
  have hlen : bs.length = N * 64 := by have := hr.1; simpa using this
  obtain ⟨i0, hi0, hz0, hs0, _⟩ := T24.info
  have H0 := Lib.hid hi0; have HZ := Lib.hid hz0
  have HLEN := Lib.hid hlen
  clear hi0 hz0 hs0 hlen
  have HF := Lib.hid (Lib.fresh_isBuffer 58 5 w)
  have HFB := Lib.hid (World.grownBy_alloc w (.cells #[.slice none 0 0, .int .i64 0, .int .i8 0] 58) none)
  go_enter Tryd.func18, Tryd.ntmps18
  go_wp2_with fail
  obtain ⟨b, hb⟩ : ∃ b, w.heap.size = b := ⟨_, rfl⟩
  rw [hb] at hr HF ⊢
  have HBB := Lib.hid hb; clear hb
  go_loopw [15] (fun i wr => ∃ (k : Nat) (x : List UInt8), k ≤ N ∧ i = .int .i64 k ∧ Hid (joinAcc g nn N bs k = some x) ∧ Hid (Lib.IsBuffer 58 5 b b (x.map bv) wr) ∧ Nw w wr) (fun i _ => N - (intOf i).toNat)
  case atStart => exact ⟨0, [], Nat.zero_le _, rfl, rfl, HF, HFB.out⟩
  case round =>
    obtain ⟨k, x, hk, rfl, hacc, hbuf, hbw⟩ := hrel
    by_cases hlt : k < N
    · obtain ⟨bl, off, rfl, hbB, hl1, hcu⟩ := (hr.nw hbw (by rw [HBB.out]; exact Nat.le_refl _)).atN hlt (by decide)
      rw [← List.map_drop, ← List.map_take] at hcu hl1
      change ((secAt bs k).map bv).length = 64 at hl1
      change ∀ j u, ((secAt bs k).map bv)[j]? = some u → _ at hcu
      have hsl : (secAt bs k).length = 64 := by simpa using hl1
      obtain ⟨hfy, hfn⟩ := joinAcc_step hacc.out
      have hxl := joinAcc_len hacc.out
      have HT := Lib.hid (fun w' => tagof_any (secAt bs k) hsl w')
      have HB := Lib.hid (bv_one (secAt bs k))
      obtain ⟨s, hs⟩ : ∃ s, secAt bs k = s := ⟨_, rfl⟩
      have HFY := Lib.hid hfy; have HFN := Lib.hid hfn
      rw [hs] at hsl HT HB hl1 hcu HFY HFN
      have HLL := Lib.hid hl1; have HCL := Lib.hid hcu; have HSL := Lib.hid hsl
      obtain ⟨L, hL⟩ : ∃ L, s.map bv = L := ⟨_, rfl⟩
      rw [hL] at HLL HCL HB HT
      have HLQ := Lib.hid hL
      clear hs hfy hfn hl1 hcu hsl hL
      have HC := Lib.hid (fun (w' : World) (y : Nat) (h : Own w' b 35 64 (some ⟨y, 0, none⟩) 1 1 L) => show ∀ j u, L[j]? = some u → w'.cell? ⟨y, 0 + j, none⟩ = some u from by
        intro j u hu; rw [Nat.zero_add, h.row1'.cell j]; simpa using hu)
      have hlt' : (k : Int) < (N : Int) := by omega
      unfold Ret at HT
      have hbs : b ≤ wr.heap.size := by rw [← HBB.out]; exact hbw.size
      rcases hb : tagB s with _ | _
      · have hff : fitB g nn k N s = false := by unfold fitB; rw [hb]; rfl
        have H := Lib.hid (join_none (HFN.out hff) hlt)
        rw [tagV_no5 hb] at HT
        clear hff hb
        go_upto_region 6 with (first | ((with_reducible refine (HT.out _).mono ?_); rintro e w4 ⟨rfl, n4⟩) | (refine wpList_load_agg 35 _ rfl rfl rfl L (HC.out _ _ o3) _ Tryd.underlying35 rfl (by rw [HLL.out]; kernel_rfl) ?_) | (refine wpList_store_own (cs := L) 35 _ _ rfl rfl rfl rfl rfl (by rw [HLL.out]; kernel_rfl) HB.out a1 (by rw [HLL.out]; decide) ?_; intro w3 o3 m3; rw [splice_all _ _ (by rw [HLL.out, z64_list]; rfl)] at o3) | (refine wpList_alloc (size := 64) 35 rfl rfl b i0 H0.out HZ.out (by simp [z64, Value.cells]) hbs ?_; intro y w2 a1 a2 a3) | (refine wpList_load_agg 35 _ rfl rfl rfl L HCL.out _ Tryd.underlying35 rfl (by rw [HLL.out]; kernel_rfl) ?_))
        (have N3 := Lib.hid (nw_of_gb (gb_trans hbw a2) m3 (by intro r hr; injection hr with hr; subst hr; rw [HBB.out]; exact Nat.le_trans hbs a3)); have N4 := Lib.hid (gb_trans N3.out n4); have O4 := Lib.hid (o3.nw n4); have D4 := Lib.hid (gb_trans (nw_of_gb a2 m3 (by intro r hr; injection hr with hr; subst hr; exact a3)) n4); have HY := Lib.hid a3; clear a1 a2 a3 m3 o3 n4)
        clear HT HC HB HLL HCL
        go_wp2
        go_ret2
        exact ⟨none, 0, 0, by rw [H.out.2]; rfl, by rw [H.out.1]; exact Own.nil, gb_alloc N4.out _⟩
      · obtain ⟨hh1, hh2⟩ := heldL_len HSL.out hb
        have hfit : fitB g nn k N s = tagE (getL s 4, getL (s.drop 4) 4, b8 s, b9 s, b10 s) (g, nn, k, N, b10 s) := by unfold fitB; rw [hb]; rfl
        rw [tagV_yes hb] at HT
        unfold tv at HT
        obtain ⟨f, hf⟩ : ∃ f, fitB g nn k N s = f := ⟨_, rfl⟩
        rw [hf] at hfit HFY HFN
        obtain ⟨x1, hx1⟩ : ∃ x1, getL s 4 = x1 := ⟨_, rfl⟩
        obtain ⟨x2, hx2⟩ : ∃ x2, getL (s.drop 4) 4 = x2 := ⟨_, rfl⟩
        obtain ⟨x3, hx3⟩ : ∃ x3, b8 s = x3 := ⟨_, rfl⟩
        obtain ⟨x4, hx4⟩ : ∃ x4, b9 s = x4 := ⟨_, rfl⟩
        obtain ⟨x5, hx5⟩ : ∃ x5, b10 s = x5 := ⟨_, rfl⟩
        have HX5 := Lib.hid hx5
        rw [hx1, hx2, hx3, hx4, hx5] at hfit HT
        rw [hx5] at hh1 hh2
        have HH1 := Lib.hid hh1
        clear hx1 hx2 hx3 hx4 hx5 hb hf hh1
        have HE := Lib.hid (show (!tagE (x1, x2, x3, x4, x5) (g, nn, k, N, x5)) = !f by rw [hfit])
        clear hfit
        rcases f with _ | _
        · have H := Lib.hid (join_none (HFN.out rfl) hlt)
          go_upto_region 6 with (first | ((with_reducible refine (HT.out _).mono ?_); rintro e w4 ⟨rfl, n4⟩) | (refine wpList_load_agg 35 _ rfl rfl rfl L (HC.out _ _ o3) _ Tryd.underlying35 rfl (by rw [HLL.out]; kernel_rfl) ?_) | (refine wpList_store_own (cs := L) 35 _ _ rfl rfl rfl rfl rfl (by rw [HLL.out]; kernel_rfl) HB.out a1 (by rw [HLL.out]; decide) ?_; intro w3 o3 m3; rw [splice_all _ _ (by rw [HLL.out, z64_list]; rfl)] at o3) | (refine wpList_alloc (size := 64) 35 rfl rfl b i0 H0.out HZ.out (by simp [z64, Value.cells]) hbs ?_; intro y w2 a1 a2 a3) | (refine wpList_load_agg 35 _ rfl rfl rfl L HCL.out _ Tryd.underlying35 rfl (by rw [HLL.out]; kernel_rfl) ?_))
          (have N3 := Lib.hid (nw_of_gb (gb_trans hbw a2) m3 (by intro r hr; injection hr with hr; subst hr; rw [HBB.out]; exact Nat.le_trans hbs a3)); have N4 := Lib.hid (gb_trans N3.out n4); have O4 := Lib.hid (o3.nw n4); have D4 := Lib.hid (gb_trans (nw_of_gb a2 m3 (by intro r hr; injection hr with hr; subst hr; exact a3)) n4); have HY := Lib.hid a3; clear a1 a2 a3 m3 o3 n4)
          clear HT HC HB HLL HCL
          go_wp2_with (refine wpList_neq_tag _ _ rfl rfl (x1, x2, x3, x4, x5) (g, nn, k, N, x5) rfl rfl HE.out ?_)
          go_ret2
          exact ⟨none, 0, 0, by rw [H.out.2]; rfl, by rw [H.out.1]; exact Own.nil, gb_alloc N4.out _⟩
        · go_upto_region 6 with (first | ((with_reducible refine (HT.out _).mono ?_); rintro e w4 ⟨rfl, n4⟩) | (refine wpList_load_agg 35 _ rfl rfl rfl L (HC.out _ _ o3) _ Tryd.underlying35 rfl (by rw [HLL.out]; kernel_rfl) ?_) | (refine wpList_store_own (cs := L) 35 _ _ rfl rfl rfl rfl rfl (by rw [HLL.out]; kernel_rfl) HB.out a1 (by rw [HLL.out]; decide) ?_; intro w3 o3 m3; rw [splice_all _ _ (by rw [HLL.out, z64_list]; rfl)] at o3) | (refine wpList_alloc (size := 64) 35 rfl rfl b i0 H0.out HZ.out (by simp [z64, Value.cells]) hbs ?_; intro y w2 a1 a2 a3) | (refine wpList_load_agg 35 _ rfl rfl rfl L HCL.out _ Tryd.underlying35 rfl (by rw [HLL.out]; kernel_rfl) ?_))
          (have N3 := Lib.hid (nw_of_gb (gb_trans hbw a2) m3 (by intro r hr; injection hr with hr; subst hr; rw [HBB.out]; exact Nat.le_trans hbs a3)); have N4 := Lib.hid (gb_trans N3.out n4); have O4 := Lib.hid (o3.nw n4); have D4 := Lib.hid (gb_trans (nw_of_gb a2 m3 (by intro r hr; injection hr with hr; subst hr; exact a3)) n4); have HY := Lib.hid a3; clear a1 a2 a3 m3 o3 n4)
          clear HT HCL
          go_upto_region 8 with (refine wpList_neq_tag _ _ rfl rfl (x1, x2, x3, x4, x5) (g, nn, k, N, x5) rfl rfl HE.out ?_)
          have hyb : b < y := Nat.lt_of_lt_of_le hbuf.out.lt HY.out
          have hS := part_slice y x5 hh2
          have HIB := Lib.hid (fun X : Obj => hbuf.out.old (Nw.below (gb_alloc D4.out X)))
          have HNW := Lib.hid (fun X : Obj => gb_alloc N4.out X)
          have HSRC := Lib.hid (held_src HLQ.out (show b10 s = x5 from HX5.out) HSL.out hh2 O4.out.row1')
          have hln : ((heldL s).map bv).length = x5 := by rw [List.length_map]; exact HH1.out
          have hlim : (x.map bv).length + x5 ≤ 140737488355328 := by rw [List.length_map]; omega
          have hbW : ∀ X : Obj, b ≤ (w4.alloc X).heap.size := by intro X; have := (HNW.out X).size; rw [HBB.out] at this; exact this
          have HACC := Lib.hid (HFY.out trivial)
          clear HB HLL O4 HX5 HSL HLQ hxl
          go_wp2_with (go_at_call 27; refine (buf_write b b (x.map bv) ((heldL s).map bv) ⟨y, 11, none⟩ x5 53 _ (HIB.out _) (hbW _) (bv_one _) hln (by show y ≠ b; omega) (HSRC.out _) (bv_one _) hlim).mono ?_; rintro e w5 ⟨rfl, i5, b5, k5⟩)
          go_roundw
          case rel =>
            refine ⟨k + 1, x ++ heldL s, by omega, by go_num, HACC, Lib.hid (by rw [List.map_append]; exact i5), ?_⟩
            rw [← HBB.out] at b5
            exact nw_below ((Nw.below (HNW.out _)).trans b5)
          case measure => simp only [intOf]; omega
    · have hkN : k = N := by omega
      subst hkN
      obtain ⟨j1, j2⟩ := join_some hacc.out
      have H := Lib.hid (show joinL g nn k bs = x ∧ joinB g nn k bs = decide (0 < k) from ⟨j1, j2⟩)
      clear j1 j2
      go_wp2_with (go_at_call 28; refine (buf_bytes b b (x.map bv) _ hbuf.out).mono ?_; rintro e w5 ⟨v, rfl, o5, nd, rfl⟩)
      obtain ⟨A5, m5, c5, rfl, h5⟩ := row_slice o5
      go_ret2
      refine ⟨A5, m5, c5, by rw [H.out.2]; rfl, by rw [H.out.1, HBB.out]; exact h5, gb_drewN hbw nd⟩
end Go.Proofs.YtlfkeohlnhlcoaaDoor

