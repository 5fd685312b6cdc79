/- shown answers true. -/
import Derived.Test.YtkkkhkkjdjnfhaaK
namespace Go.Proofs.Ytkkkhkkjdjnfhaa
open Go.RowKit Go.BW

set_option maxRecDepth 100000 in
set_option maxHeartbeats 8000000 in
theorem shown_any (w : World) : Calls Try.prog 8 #[] w (Ret (.bool true) w) := by
  go_enter Try.func8, Try.ntmps8
  go_upto_region 2 with (first
    | ((with_reducible refine (two_any (o1.nw g2) o2).mono ?_); rintro e w3 ⟨g3, A3, c3, r3, d3, rfl, o3⟩; have X3 := Lib.hid (Obj1.new w3 24 #[.int .i64 9, .int .i64 4, .int .i64 0, .int .i64 16, .slice A3 3 c3]); have N3 := Lib.hid (gb_trans (gb_trans (gb_trans g1 g2) g3) (World.grownBy_alloc w3 (.cells #[.int .i64 9, .int .i64 4, .int .i64 0, .int .i64 16, .slice A3 3 c3] 24) none)); have O3 := Lib.hid (o3.nw (World.grownBy_alloc w3 (.cells #[.int .i64 9, .int .i64 4, .int .i64 0, .int .i64 16, .slice A3 3 c3] 24) none)))
    | ((with_reducible refine (three_lb 1 _).mono ?_); rintro e w2 ⟨A2, c2, rfl, o2, g2⟩)
    | ((with_reducible refine (three_lb 0 _).mono ?_); rintro e w1 ⟨A1, c1, rfl, o1, g1⟩))
  obtain ⟨W, hW⟩ : ∃ W, w3.alloc (.cells #[.int .i64 9, .int .i64 4, .int .i64 0, .int .i64 16, .slice A3 3 c3] 24) = W := ⟨_, rfl⟩
  obtain ⟨x3, hx3⟩ : ∃ x, w3.heap.size = x := ⟨_, rfl⟩
  rw [hW] at X3 N3 O3
  clear o1 o2 o3 g1 g2 g3
  rw [hx3] at X3 ⊢
  rw [hW]
  clear hW hx3
  go_upto_region 3 with (first
    | ((with_reducible refine (one_any o4).mono ?_); rintro e w5 ⟨rfl, g5⟩; have X5 := Lib.hid (Obj1.new w5 24 #[.int .i64 0, .int .i64 0, .int .i64 0, .int .i64 0, .slice none 0 0]); have N5 := Lib.hid (gb_trans (gb_trans g4 g5) (World.grownBy_alloc w5 (.cells #[.int .i64 0, .int .i64 0, .int .i64 0, .int .i64 0, .slice none 0 0] 24) none)))
    | ((with_reducible refine (three_lb 0 _).mono ?_); rintro e w4 ⟨A4, c4, rfl, o4, g4⟩))
  obtain ⟨V, hV⟩ : ∃ V, w5.alloc (.cells #[.int .i64 0, .int .i64 0, .int .i64 0, .int .i64 0, .slice none 0 0] 24) = V := ⟨_, rfl⟩
  obtain ⟨x5, hx5⟩ : ∃ x, w5.heap.size = x := ⟨_, rfl⟩
  rw [hV] at X5 N5
  rw [hx5] at X5 ⊢
  rw [hV]
  have X35 := Lib.hid (X3.out.nw N5.out); have O35 := Lib.hid (O3.out.nw N5.out); have N35 := Lib.hid (gb_trans N3.out N5.out)
  clear hV hx5 o4 g4 g5 X3 O3 N3 N5
  go_upto_region 4 with (first
    | ((with_reducible refine (lost_two o6).mono ?_); rintro e w7 ⟨g7, r7, c7, rfl, o7⟩; have X7 := Lib.hid (Obj1.new w7 24 #[.int .i64 9, .int .i64 5, .int .i64 0, .int .i64 16, .slice (some ⟨r7, 0, none⟩) 3 c7]); have N7 := Lib.hid (gb_trans (gb_trans g6 g7) (World.grownBy_alloc w7 (.cells #[.int .i64 9, .int .i64 5, .int .i64 0, .int .i64 16, .slice (some ⟨r7, 0, none⟩) 3 c7] 24) none)); have O7 := Lib.hid (o7.nw (World.grownBy_alloc w7 (.cells #[.int .i64 9, .int .i64 5, .int .i64 0, .int .i64 16, .slice (some ⟨r7, 0, none⟩) 3 c7] 24) none)))
    | ((with_reducible refine (three_lb 0 _).mono ?_); rintro e w6 ⟨A6, c6, rfl, o6, g6⟩))
  obtain ⟨U, hU⟩ : ∃ U, w7.alloc (.cells #[.int .i64 9, .int .i64 5, .int .i64 0, .int .i64 16, .slice (some ⟨r7, 0, none⟩) 3 c7] 24) = U := ⟨_, rfl⟩
  obtain ⟨x7, hx7⟩ : ∃ x, w7.heap.size = x := ⟨_, rfl⟩
  rw [hU] at X7 N7 O7
  rw [hx7] at X7 ⊢
  rw [hU]
  have k31 := (X35.out.nw N7.out).cell 1
  have k74 := X7.out.cell 4
  have k71 := X7.out.cell 1
  obtain ⟨u0, hu0, k3m, _⟩ := (O35.out.nw N7.out).cellAt (k := 0) (by decide)
  obtain ⟨u8, hu8, k7m, _⟩ := O7.out.cellN (k := 8) (by decide)
  have N := Lib.hid (gb_trans N35.out N7.out)
  cases hu0
  cases hu8
  clear hU hx7 o6 g6 g7 X35 O35 N35 O7 X7 N7 X5
  go_wp2
  go_ret
  exact ⟨rfl, N.out⟩
end Go.Proofs.Ytkkkhkkjdjnfhaa

