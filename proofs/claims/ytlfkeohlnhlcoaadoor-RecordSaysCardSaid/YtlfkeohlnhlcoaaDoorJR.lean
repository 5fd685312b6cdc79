/- What the reference's Join returns, for all numbers and every slice of at most a million sectors: the same. -/
import Derived.Test.YtlfkeohlnhlcoaaDoorJW
namespace Go.Proofs.YtlfkeohlnhlcoaaDoor
open Go.RowKit Go.BW

def RJoinPost (g n : Int) (N : Nat) (bs : List UInt8) (w : World) (e : Ending) (w' : World) : Prop :=
  e = .returned (.tuple #[.string ⟨(joinL g n N bs).toArray⟩, .bool (joinB g n N bs)]) ∧ Nw w w'
theorem tagE_part (x1 x2 x3 x4 x5 y1 y2 y3 y4 : Int) : tagE (x1, x2, x3, x4, x5) (y1, y2, y3, y4, x5) = (x1 == y1 && x2 == y2 && x3 == y3 && x4 == y4) := by
  unfold tagE; rw [Bool.eq_iff_iff]; simp [and_assoc]
theorem part_sliceO (y o l : Nat) (h : l ≤ 53) : ∀ w' : World, (Instr.sliceAt 35 (.pointer (some ⟨y, o, none⟩)) (some (.int .i64 11)) (some (.int .i64 (11 + (l : Int)))) none).run Tryd.prog w' = .ok (.slice (some ⟨y, o + 11, none⟩) l 53) w' := by
  intro w'
  have := run_arr_partO 35 5 64 Tryd.underlying35 (by kernel_rfl) y o 11 (11 + l) (some (.int .i64 11)) (some (.int .i64 (11 + (l : Int)))) (by omega) (by omega) (.inl rfl) (.inl (by rw [Int.natCast_add]; rfl)) w'
  rw [this, if_neg (by decide), Nat.add_sub_cancel_left]
theorem held_rd {w : World} {B y o l : Nat} {s : List UInt8} {L : List Value} (hr : Rd w B 1 (some ⟨y, o, none⟩) 64 L) (hL : s.map bv = L) (hb : b10 s = l) (hs : s.length = 64) (hl : l ≤ 53) : Rd w B 1 (some ⟨y, o + 11, none⟩) l ((heldL s).map bv) := by
  have h := rd_partO (l := 11) (h := 11 + l) hr (by omega) (by omega)
  rw [if_neg (by decide), Nat.add_sub_cancel_left, ← hL, ← List.map_take, ← List.map_drop, List.drop_take, Nat.add_sub_cancel_left] at h
  unfold heldL; rw [hb]; exact h
set_option maxHeartbeats 4000000 in
theorem rjoin_any {A : Option Addr} {N d : Nat} {bs : List UInt8} {w : World} {g nn : Int} (hr : Rd w w.heap.size 64 A N (bs.map bv)) (hN : N ≤ 1000000) :
    Calls Tryd.prog 19 #[.int .i64 g, .int .i64 nn, .slice A N d] w (RJoinPost g nn N bs w) := by
  have hlen : bs.length = N * 64 := by have := hr.1; simpa using this
  have HLEN := Lib.hid hlen
  clear hlen
  go_enter Tryd.func19, Tryd.ntmps19
  go_wp2_with fail
  go_loopw [8, 9] (fun s i wr => ∃ (k : Nat) (x : List UInt8), k ≤ N ∧ i = .int .i64 k ∧ s = .string ⟨x.toArray⟩ ∧ Hid (joinAcc g nn N bs k = some x) ∧ Nw w wr) (fun _ i _ => N - (intOf i).toNat)
  case atStart => exact ⟨0, [], Nat.zero_le _, rfl, rfl, rfl, Nw.refl _⟩
  case round =>
    obtain ⟨k, x, hk, rfl, rfl, hacc, hbw⟩ := hrel
    by_cases hlt : k < N
    · obtain ⟨bl, off, rfl, hx⟩ := (hr.nw hbw (Nat.le_refl _)).elem hlt (by decide)
      rw [← List.map_drop, ← List.map_take] at hx
      change Rd wr w.heap.size 1 (some ⟨bl, off + k * 64, none⟩) 64 ((secAt bs k).map bv) at hx
      have hsl : (secAt bs k).length = 64 := by have := hx.1; simpa using this
      obtain ⟨hfy, hfn⟩ := joinAcc_step hacc.out
      have hxl := joinAcc_len hacc.out
      have HT := Lib.hid (fun w' => rtagof_any (secAt bs k) hsl w')
      obtain ⟨s, hs⟩ : ∃ s, secAt bs k = s := ⟨_, rfl⟩
      have HFY := Lib.hid hfy; have HFN := Lib.hid hfn
      rw [hs] at hsl HT hx HFY HFN
      have HSL := Lib.hid hsl
      obtain ⟨L, hL⟩ : ∃ L, s.map bv = L := ⟨_, rfl⟩
      rw [hL] at hx HT
      have hcl : ∀ j u, L[j]? = some u → wr.cell? ⟨bl, off + k * 64 + j, none⟩ = some u := by
        intro j u hu
        obtain ⟨b', o', e, _, hc⟩ := hx.2 (by decide)
        injection e with e; injection e with e1 e2; subst e1; subst e2
        exact hc j u hu
      have HCL := Lib.hid hcl
      have HLL := Lib.hid (show L.length = 64 by have := hx.1; omega)
      have HX := Lib.hid hx
      have HLQ := Lib.hid hL
      clear hs hfy hfn hsl hL hx hcl
      have hlt' : (k : Int) < (N : Int) := by omega
      unfold Ret at HT
      rcases hb : tagB s with _ | _
      · have hff : fitB g nn k N s = false := by unfold fitB; rw [hb]; rfl
        have H := Lib.hid (join_none (HFN.out hff) hlt)
        rw [tagV_no5 hb] at HT
        clear hff hb
        go_upto_region 6 with (first | ((with_reducible refine (HT.out _).mono ?_); rintro e w4 ⟨rfl, n4⟩) | (refine wpList_load_agg 35 _ rfl rfl rfl L HCL.out _ Tryd.underlying35 rfl (by rw [HLL.out]; kernel_rfl) ?_))
        have N4 := Lib.hid (gb_trans hbw n4)
        clear HT HLL HCL
        go_wp2
        go_ret2
        exact ⟨by rw [H.out.2, H.out.1]; rfl, gb_alloc N4.out _⟩
      · obtain ⟨hh1, hh2⟩ := heldL_len HSL.out hb
        have hfit : fitB g nn k N s = tagE (getL s 4, getL (s.drop 4) 4, b8 s, b9 s, b10 s) (g, nn, k, N, b10 s) := by unfold fitB; rw [hb]; rfl
        rw [tagE_part] at hfit
        rw [tagV_yes hb] at HT
        unfold tv at HT
        obtain ⟨f, hf⟩ : ∃ f, fitB g nn k N s = f := ⟨_, rfl⟩
        rw [hf] at hfit HFY HFN
        obtain ⟨x1, hx1⟩ : ∃ x1, getL s 4 = x1 := ⟨_, rfl⟩
        obtain ⟨x2, hx2⟩ : ∃ x2, getL (s.drop 4) 4 = x2 := ⟨_, rfl⟩
        obtain ⟨x3, hx3⟩ : ∃ x3, b8 s = x3 := ⟨_, rfl⟩
        obtain ⟨x4, hx4⟩ : ∃ x4, b9 s = x4 := ⟨_, rfl⟩
        obtain ⟨x5, hx5⟩ : ∃ x5, b10 s = x5 := ⟨_, rfl⟩
        have HX5 := Lib.hid hx5
        rw [hx1, hx2, hx3, hx4] at hfit
        rw [hx1, hx2, hx3, hx4, hx5] at HT
        rw [hx5] at hh1 hh2
        have HH1 := Lib.hid hh1
        clear hx1 hx2 hx3 hx4 hx5 hb hf hh1
        have hbad : ∀ f', f = f' → f' = false → Hid (joinL g nn N bs = [] ∧ joinB g nn N bs = false) := by
          intro f' e1 e2; subst e1; subst e2; exact Lib.hid (join_none (HFN.out rfl) hlt)
        rcases c1 : (x1 == g) with _ | _
        · have H := hbad false (by rw [hfit, c1]; rfl) rfl
          have c1' : (x1 != g) = true := by rw [bne, c1]; rfl
          clear hfit hbad c1
          go_upto_region 6 with (first | ((with_reducible refine (HT.out _).mono ?_); rintro e w4 ⟨rfl, n4⟩) | (refine wpList_load_agg 35 _ rfl rfl rfl L HCL.out _ Tryd.underlying35 rfl (by rw [HLL.out]; kernel_rfl) ?_))
          have N4 := Lib.hid (gb_trans hbw n4)
          clear HT HLL HCL
          go_wp2
          go_ret2
          exact ⟨by rw [H.out.2, H.out.1]; rfl, gb_alloc N4.out _⟩
        have c1' : (x1 != g) = false := by rw [bne, c1]; rfl
        rcases c2 : (x2 == nn) with _ | _
        · have H := hbad false (by rw [hfit, c2]; simp) rfl
          have c2' : (x2 != nn) = true := by rw [bne, c2]; rfl
          clear hfit hbad c1 c2
          go_upto_region 6 with (first | ((with_reducible refine (HT.out _).mono ?_); rintro e w4 ⟨rfl, n4⟩) | (refine wpList_load_agg 35 _ rfl rfl rfl L HCL.out _ Tryd.underlying35 rfl (by rw [HLL.out]; kernel_rfl) ?_))
          have N4 := Lib.hid (gb_trans hbw n4)
          clear HT HLL HCL
          go_wp2
          go_ret2
          exact ⟨by rw [H.out.2, H.out.1]; rfl, gb_alloc N4.out _⟩
        have c2' : (x2 != nn) = false := by rw [bne, c2]; rfl
        rcases c3 : ((x3 : Int) == (k : Int)) with _ | _
        · have H := hbad false (by rw [hfit, c3]; simp) rfl
          have c3' : ((x3 : Int) != (k : Int)) = true := by rw [bne, c3]; rfl
          clear hfit hbad c1 c2 c3
          go_upto_region 6 with (first | ((with_reducible refine (HT.out _).mono ?_); rintro e w4 ⟨rfl, n4⟩) | (refine wpList_load_agg 35 _ rfl rfl rfl L HCL.out _ Tryd.underlying35 rfl (by rw [HLL.out]; kernel_rfl) ?_))
          have N4 := Lib.hid (gb_trans hbw n4)
          clear HT HLL HCL
          go_wp2
          go_ret2
          exact ⟨by rw [H.out.2, H.out.1]; rfl, gb_alloc N4.out _⟩
        have c3' : ((x3 : Int) != (k : Int)) = false := by rw [bne, c3]; rfl
        rcases c4 : ((x4 : Int) == (N : Int)) with _ | _
        · have H := hbad false (by rw [hfit, c4]; simp) rfl
          have c4' : ((x4 : Int) != (N : Int)) = true := by rw [bne, c4]; rfl
          clear hfit hbad c1 c2 c3 c4
          go_upto_region 6 with (first | ((with_reducible refine (HT.out _).mono ?_); rintro e w4 ⟨rfl, n4⟩) | (refine wpList_load_agg 35 _ rfl rfl rfl L HCL.out _ Tryd.underlying35 rfl (by rw [HLL.out]; kernel_rfl) ?_))
          have N4 := Lib.hid (gb_trans hbw n4)
          clear HT HLL HCL
          go_wp2
          go_ret2
          exact ⟨by rw [H.out.2, H.out.1]; rfl, gb_alloc N4.out _⟩
        have c4' : ((x4 : Int) != (N : Int)) = false := by rw [bne, c4]; rfl
        have hft : f = true := by rw [hfit, c1, c2, c3, c4]; rfl
        have HACC := Lib.hid (HFY.out hft)
        clear hfit hbad c1 c2 c3 c4 hft HFY HFN
        go_upto_region 6 with (first | ((with_reducible refine (HT.out _).mono ?_); rintro e w4 ⟨rfl, n4⟩) | (refine wpList_load_agg 35 _ rfl rfl rfl L HCL.out _ Tryd.underlying35 rfl (by rw [HLL.out]; kernel_rfl) ?_))
        have N4 := Lib.hid (gb_trans hbw n4)
        clear HT HLL HCL
        go_wp2_with fail
        have ho := Obj1.new w4 36 #[.int .i64 x1, .int .i64 x2, .int .i64 x3, .int .i64 x4, .int .i64 x5]
        have hn5 := World.grownBy_alloc w4 (.cells #[.int .i64 x1, .int .i64 x2, .int .i64 x3, .int .i64 x4, .int .i64 x5] 36) none
        obtain ⟨W, hW⟩ : ∃ W, w4.alloc (.cells #[.int .i64 x1, .int .i64 x2, .int .i64 x3, .int .i64 x4, .int .i64 x5] 36) = W := ⟨_, rfl⟩
        obtain ⟨y, hy⟩ : ∃ y, w4.heap.size = y := ⟨_, rfl⟩
        rw [hW] at ho hn5 ⊢
        rw [hy] at ho ⊢
        have N5 := Lib.hid (gb_trans N4.out hn5)
        have HRD := Lib.hid (fun (w' : World) (h : Nw W w') => held_rd (HX.out.nw (gb_trans (gb_trans n4 hn5) h) hbw.size) HLQ.out HX5.out HSL.out hh2)
        have k1 : ∀ w', Nw W w' → w'.cell? ⟨y, 4, none⟩ = some (.int .i64 x5) := fun w' h => (ho.nw h).cell 4
        have hS := part_sliceO bl (off + k * 64) x5 hh2
        have hwr : IntKind.i64.wrap (11 + (x5 : Int)) = 11 + (x5 : Int) := IntWalk.i64_in _ (by omega)
        have hsum : x.length + (heldL s).length ≤ 9223372036854775807 := by rw [HH1.out]; omega
        clear hW hy ho hn5 n4 HX HLQ HX5 HSL c1' c2' c3' c4'
        refine wp_region_held (S := (fun w' => Nw W w')) (by kernel_rfl) ?_
        change wpAnyH _ _ _ _ _ _ _ _ (World.drew W)
        refine held_seg' (l := [0, 1, 2, 3, 4, 5, 6, 7, 8, 9, 10]) (fuel := 0) rfl (by kernel_rfl) (by kernel_rfl) (by simp only [List.filterMap_cons, List.filterMap_nil, List.getElem?_toArray, List.getElem?_cons_succ, List.getElem?_cons_zero]; rfl) (fun _ _ d _ _ h => by cases d <;> exact h) (gb_drew (Nw.refl W)) ?_
        iterate 8 (refine wpYield_step rfl (fun K hK => ?_)
                   apply Exists.intro
                   refine ⟨fun w' hw' => ?_, ?_⟩
                   · (go_simp; try with_reducible rfl)
                   go_simp
                   refine hK _ ?_
                   clear hK K)
        refine wpYield_bytes_str 22 9 5 Tryd.underlying22 Tryd.underlying5 Tryd.underlying9 _ rfl rfl rfl (fun w' hw' => HRD.out w' hw') ?_
        refine wpYield_str_add 9 9 _ _ rfl rfl x (heldL s) rfl rfl hsum rfl ?_
        (refine wpYield_step rfl (fun K hK => ?_)
         apply Exists.intro
         refine ⟨fun w' hw' => ?_, ?_⟩
         · (go_simp; try with_reducible rfl)
         go_simp
         refine hK _ ?_
         clear hK K)
        refine wpYield_nil ?_
        refine wpAnyH_done (by kernel_rfl) ?_ _
        go_wp2
        go_roundw
        case rel => exact ⟨k + 1, x ++ heldL s, by omega, by go_num, rfl, HACC, gb_drew N5.out⟩
        case measure => simp only [intOf]; omega
    · have hkN : k = N := by omega
      subst hkN
      obtain ⟨j1, j2⟩ := join_some hacc.out
      have H := Lib.hid (show joinL g nn k bs = x ∧ joinB g nn k bs = decide (0 < k) from ⟨j1, j2⟩)
      clear j1 j2
      go_wp2
      go_ret2
      exact ⟨by rw [H.out.2, H.out.1]; rfl, hbw⟩
end Go.Proofs.YtlfkeohlnhlcoaaDoor

