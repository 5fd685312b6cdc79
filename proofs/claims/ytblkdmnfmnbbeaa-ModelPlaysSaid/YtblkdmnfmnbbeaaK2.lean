/- What shown returns. -/
import Derived.Test.YtblkdmnfmnbbeaaK
namespace Go.Proofs.Ytblkdmnfmnbbeaa
open Go.RowKit Go.BW

theorem numN1 : numN 1 = 1 := by decide
theorem sv_len (x : UInt8) : (b1 x).length = 64 := rfl
theorem load_of {w : World} {x : Nat} {cs : List Value} (h : Obj1 w x 27 cs.toArray) : ∀ j u, cs[j]? = some u → w.cell? ⟨x, 0 + j, none⟩ = some u := fun j u hu => by rw [Nat.zero_add, h.cell j]; simpa using hu
theorem mem_x (x y : Nat) : x ∈ [y, x] := by simp
theorem mem_y (x y : Nat) : y ∈ [y, x] := by simp
set_option maxHeartbeats 1000000 in
theorem shown_any (w : World) : Calls Try.prog 9 #[] w (Ret (.bool true) w) := by
  have hnew := Lib.hid (show ∀ w, Calls Try.prog 10 #[.int .i64 1] w (NewPost 1 w) from fun w => by have := new_any 1 w; rwa [numN1] at this)
  obtain ⟨i0, hi0, hz0, _⟩ := T22.info
  rw [z64_cells] at hz0
  have HZ := Lib.hid hz0; clear hz0
  have HI := Lib.hid hi0; clear hi0
  go_enter Try.func9, Try.ntmps9
  go_wp2_with (first | (refine (hnew.out _).mono ?_; rintro e w1 h1; obtain ⟨g, F, rfl, s1⟩ := St.of_new (Nw.refl w) h1; have S1 := Lib.hid s1; clear s1 h1; unfold pv) | (refine wpList_build1 rfl 1 _ rfl rfl rfl ?_) | (refine wpList_build1 rfl 2 _ rfl rfl rfl ?_) |
    (have := S3; refine wpList_alloc (size := 64) 27 rfl rfl w.heap.size i0 HI.out HZ.out (by kernel_rfl) S3.out.nw.size ?_; intro y w4 d1 d2 d3; have S4 := Lib.hid (((S3.out.more d2).1).addVar (x := y) (by obtain ⟨cur, hc⟩ := d1.obj; exact hc.lt) (fun hm => by have := S3.out.rep.lt y hm; omega)); have D1 := Lib.hid d1; have OX4 := Lib.hid (OX.out.nw d2); have D3 := Lib.hid d3; have D0 := Lib.hid (show x ≠ y from by have := OX.out.lt; omega); clear d1 d2 d3) |
    (refine wpList_alloc (size := 64) 27 rfl rfl w.heap.size i0 HI.out HZ.out (by kernel_rfl) S1.out.nw.size ?_; intro x w2 a1 a2 a3; have S2 := Lib.hid (((S1.out.more a2).1).addVar (x := x) (by obtain ⟨cur, hc⟩ := a1.obj; exact hc.lt) (fun hm => by have := S1.out.rep.lt x hm; omega)); have A1 := Lib.hid a1; have A3 := Lib.hid (Nat.le_trans S1.out.nw.size a3); clear a1 a2 a3) |
    (refine wpList_store_own (cs := (b1 2).map bv) 27 _ _ rfl rfl rfl rfl rfl (by kernel_rfl) (bv_one _) D1.out (by decide) ?_; intro w5 c1 c2; have S5 := Lib.hid (S4.out.write (x := y) (by simp) (Nat.le_trans S3.out.nw.size D3.out) c2); have o3 := Own.row1 c1; rw [splice_all _ _ (by kernel_rfl)] at o3; have OY := Lib.hid o3; have OX5 := Lib.hid (OX4.out.eq (c2.block x OX4.out.lt (by intro e; injection e with e; exact D0.out e))); clear o3 c1 c2) |
    (refine wpList_store_own (cs := (b1 1).map bv) 27 _ _ rfl rfl rfl rfl rfl (by kernel_rfl) (bv_one _) A1.out (by decide) ?_; intro w3 c1 c2; have S3 := Lib.hid (S2.out.write (x := x) (by simp) A3.out c2); have o3 := Own.row1 c1; rw [splice_all _ _ (by kernel_rfl)] at o3; have OX := Lib.hid o3; clear o3 c1 c2) |
    (refine wpList_load_agg 27 _ rfl rfl rfl ((b1 1).map bv) (load_of OX5.out) _ Try.underlying27 rfl (by kernel_rfl) ?_))
  clear this
  have lx := mem_x x y
  have ly := mem_y x y
  have LX := Lib.hid lx; have LY := Lib.hid ly; clear lx ly
  refine (write_ok S5.out.rep (by omega) 0 (z64b, false) rfl (b1 1) rfl).mono ?_
  rintro e w6 h6
  obtain ⟨rfl, F6, s6, k6⟩ := S5.out.step h6
  have S6 := Lib.hid s6; have OX6 := Lib.hid (OX5.out.eq (k6 x LX.out)); have OY6 := Lib.hid (OY.out.eq (k6 y LY.out)); clear s6 k6 h6
  go_wp2_with fail
  refine (flush_any S6.out.rep (by decide) (by omega)).mono ?_
  rintro e w7 h7
  obtain ⟨rfl, F7, s7, k7⟩ := S6.out.step h7
  have S7 := Lib.hid s7; have OX7 := Lib.hid (OX6.out.eq (k7 x LX.out)); have OY7 := Lib.hid (OY6.out.eq (k7 y LY.out)); clear s7 k7 h7
  go_wp2_with (refine wpList_load_agg 27 _ rfl rfl rfl ((b1 2).map bv) (load_of OY7.out) _ Try.underlying27 rfl (by kernel_rfl) ?_)
  refine (write_ok S7.out.rep (by omega) 0 (b1 1, false) (by kernel_rfl) (b1 2) rfl).mono ?_
  rintro e w8 h8
  obtain ⟨rfl, F8, s8, k8⟩ := S7.out.step h8
  have S8 := Lib.hid s8; have OX8 := Lib.hid (OX7.out.eq (k8 x LX.out)); have OY8 := Lib.hid (OY7.out.eq (k8 y LY.out)); clear s8 k8 h8
  go_wp2_with fail
  refine (fall_any S8.out.rep (by decide)).mono ?_
  rintro e w9 h9
  obtain ⟨rfl, F9, s9, k9⟩ := S8.out.step h9
  have S9 := Lib.hid s9; have OX9 := Lib.hid (OX8.out.eq (k9 x LX.out)); have OY9 := Lib.hid (OY8.out.eq (k9 y LY.out)); clear s9 k9 h9
  go_wp2_with (refine wpList_load_agg 27 _ rfl rfl rfl ((b1 1).map bv) (load_of OX9.out) _ Try.underlying27 rfl (by kernel_rfl) ?_)
  refine (may_in S9.out.rep (by omega) 0 (b1 1 ++ b1 2, true) (by kernel_rfl) (b1 1) rfl).mono ?_
  rintro e w10 ⟨rfl, n10⟩
  rw [show (if (b1 1 ++ b1 2, true).2 = true then hasB (b1 1 ++ b1 2, true).1 (b1 1) else decide (lastB (b1 1 ++ b1 2, true).1 = b1 1)) = true from by kernel_rfl]
  have S10 := Lib.hid (S9.out.more n10).1; have OX10 := Lib.hid (OX9.out.nw n10); have OY10 := Lib.hid (OY9.out.nw n10); clear n10
  go_wp2_with (refine wpList_load_agg 27 _ rfl rfl rfl ((b1 2).map bv) (load_of OY10.out) _ Try.underlying27 rfl (by kernel_rfl) ?_)
  refine (may_in S10.out.rep (by omega) 0 (b1 1 ++ b1 2, true) (by kernel_rfl) (b1 2) rfl).mono ?_
  rintro e w11 ⟨rfl, n11⟩
  rw [show (if (b1 1 ++ b1 2, true).2 = true then hasB (b1 1 ++ b1 2, true).1 (b1 2) else decide (lastB (b1 1 ++ b1 2, true).1 = b1 2)) = true from by kernel_rfl]
  have S11 := Lib.hid (S10.out.more n11).1; have OX11 := Lib.hid (OX10.out.nw n11); have OY11 := Lib.hid (OY10.out.nw n11); clear n11
  go_wp2_with (refine wpList_build0 27 rfl rfl i0 (z64b.map bv).toArray HI.out HZ.out 64 5 Try.underlying27 (by kernel_rfl) ?_)
  refine (may_in S11.out.rep (by omega) 0 (b1 1 ++ b1 2, true) (by kernel_rfl) z64b rfl).mono ?_
  rintro e w12 ⟨rfl, n12⟩
  rw [show (if (b1 1 ++ b1 2, true).2 = true then hasB (b1 1 ++ b1 2, true).1 z64b else decide (lastB (b1 1 ++ b1 2, true).1 = z64b)) = false from by kernel_rfl]
  have S12 := Lib.hid (S11.out.more n12).1; have OX12 := Lib.hid (OX11.out.nw n12); have OY12 := Lib.hid (OY11.out.nw n12); clear n12
  go_wp2_with (refine wpList_load_agg 27 _ rfl rfl rfl ((b1 1).map bv) (load_of OX12.out) _ Try.underlying27 rfl (by kernel_rfl) ?_)
  refine (settle_in S12.out.rep (by omega) 0 (b1 1 ++ b1 2, true) (by kernel_rfl) (b1 1) rfl).mono ?_
  rintro e w13 h13
  obtain ⟨rfl, F13, s13, k13⟩ := S12.out.step h13
  rw [show mayOf (b1 1 ++ b1 2, true) (b1 1) = true from by kernel_rfl]
  have S13 := Lib.hid s13; have OY13 := Lib.hid (OY12.out.eq (k13 y LY.out)); clear s13 k13 h13
  go_wp2_with (refine wpList_load_agg 27 _ rfl rfl rfl ((b1 2).map bv) (load_of OY13.out) _ Try.underlying27 rfl (by kernel_rfl) ?_)
  refine (may_in S13.out.rep (by omega) 0 (b1 1, false) (by kernel_rfl) (b1 2) rfl).mono ?_
  rintro e w14 ⟨rfl, n14⟩
  rw [show (if (b1 1, false).2 = true then hasB (b1 1, false).1 (b1 2) else decide (lastB (b1 1, false).1 = b1 2)) = false from by kernel_rfl]
  have S14 := Lib.hid (S13.out.more n14).1; clear n14
  go_wp2_with fail
  refine (S14.out.rep.len).mono ?_
  rintro e w15 ⟨rfl, rfl⟩
  simp only [List.length_set, List.length_map, List.length_replicate]
  go_wp2
  go_ret
  exact ⟨rfl, S14.out.nw⟩
end Go.Proofs.Ytblkdmnfmnbbeaa

