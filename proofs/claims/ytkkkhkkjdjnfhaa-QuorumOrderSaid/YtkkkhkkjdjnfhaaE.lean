/- Whether two labels are the same: quorum.same and the reference's Same. -/
import Derived.Test.YtkkkhkkjdjnfhaaD
namespace Go.Proofs.Ytkkkhkkjdjnfhaa
open Go.RowKit Go.BW
def sameB (x y : Lb) : Bool := x.a == y.a && x.g == y.g && x.b == y.b && eqM x.ms y.ms
set_option maxHeartbeats 1000000 in
theorem same_any {w : World} {B B' : Nat} {x y : Lb} (hx : LOk w B x) (hy : LOk w B' y) (hB : B ≤ w.heap.size) (hB' : B' ≤ w.heap.size) (hn : x.n ≤ 1000000) (hm : y.n ≤ 1000000) :
    Calls Try.prog 30 #[lv x, lv y] w (Ret (.bool (sameB x y)) w) := by
  have HQ := Lib.hid (fun w' (k : Nw w w') => equal_any (c := x.c) (d := y.c) (hx.rd.nw k hB) (hy.rd.nw k hB') (Nat.le_trans hB k.size) (Nat.le_trans hB' k.size) hn hm)
  have hr : sameB x y = (x.a == y.a && x.g == y.g && x.b == y.b && eqM x.ms y.ms) := rfl
  obtain ⟨R, hR⟩ : ∃ R, sameB x y = R := ⟨_, rfl⟩
  rw [hR] at hr ⊢
  obtain ⟨q, hq⟩ : ∃ q, eqM x.ms y.ms = q := ⟨_, rfl⟩
  rw [hq] at HQ hr
  unfold Ret at HQ
  have H := Lib.hid hr
  unfold lv
  clear hR hq hr hx hy
  rcases ea : (x.a == y.a) with _ | _
  · have HF := Lib.hid (show R = false by rw [H.out, ea]; simp)
    go_enter Try.func30, Try.ntmps30
    go_wp2_with (first | ((with_reducible refine (HQ.out _ (gb_trans (World.grownBy_alloc _ _ none) (World.grownBy_alloc _ _ none))).mono ?_); rintro e w2 ⟨rfl, n2⟩))
    go_ret
    exact ⟨by rw [HF.out]; rfl, gb_trans (World.grownBy_alloc _ _ none) (World.grownBy_alloc _ _ none)⟩
  rcases eg : (x.g == y.g) with _ | _
  · have HF := Lib.hid (show R = false by rw [H.out, eg]; simp)
    go_enter Try.func30, Try.ntmps30
    go_wp2_with (first | ((with_reducible refine (HQ.out _ (gb_trans (World.grownBy_alloc _ _ none) (World.grownBy_alloc _ _ none))).mono ?_); rintro e w2 ⟨rfl, n2⟩))
    go_ret
    exact ⟨by rw [HF.out]; rfl, gb_trans (World.grownBy_alloc _ _ none) (World.grownBy_alloc _ _ none)⟩
  rcases eb : (x.b == y.b) with _ | _
  · have HF := Lib.hid (show R = false by rw [H.out, eb]; simp)
    go_enter Try.func30, Try.ntmps30
    go_wp2_with (first | ((with_reducible refine (HQ.out _ (gb_trans (World.grownBy_alloc _ _ none) (World.grownBy_alloc _ _ none))).mono ?_); rintro e w2 ⟨rfl, n2⟩))
    go_ret
    exact ⟨by rw [HF.out]; rfl, gb_trans (World.grownBy_alloc _ _ none) (World.grownBy_alloc _ _ none)⟩
  have HF := Lib.hid (show R = q by rw [H.out, ea, eg, eb]; simp)
  go_enter Try.func30, Try.ntmps30
  go_wp2_with (first | ((with_reducible refine (HQ.out _ (gb_trans (World.grownBy_alloc _ _ none) (World.grownBy_alloc _ _ none))).mono ?_); rintro e w2 ⟨rfl, n2⟩))
  go_ret
  exact ⟨by rw [HF.out]; rfl, gb_trans (gb_trans (World.grownBy_alloc _ _ none) (World.grownBy_alloc _ _ none)) n2⟩
def sameL (x y : Lb) : Bool := x.a == y.a && x.g == y.g && x.m == y.m && x.b == y.b && eqM x.ms y.ms
set_option maxHeartbeats 1000000 in
theorem rsame_any {w : World} {B B' : Nat} {x y : Lb} (hx : LOk w B x) (hy : LOk w B' y) (hB : B ≤ w.heap.size) (hB' : B' ≤ w.heap.size) (hn : x.n ≤ 1000000) (hm : y.n ≤ 1000000) :
    Calls Try.prog 13 #[lv x, lv y] w (Ret (.bool (sameL x y)) w) := by
  have HQ := Lib.hid (fun w' (k : Nw w w') => samem_any (c := x.c) (d := y.c) (hx.rd.nw k hB) (hy.rd.nw k hB') (Nat.le_trans hB k.size) (Nat.le_trans hB' k.size) hn hm)
  have hr : sameL x y = (x.a == y.a && x.g == y.g && x.m == y.m && x.b == y.b && eqM x.ms y.ms) := rfl
  obtain ⟨R, hR⟩ : ∃ R, sameL x y = R := ⟨_, rfl⟩
  rw [hR] at hr ⊢
  obtain ⟨q, hq⟩ : ∃ q, eqM x.ms y.ms = q := ⟨_, rfl⟩
  rw [hq] at HQ hr
  unfold Ret at HQ
  have H := Lib.hid hr
  unfold lv
  clear hR hq hr hx hy
  rcases ea : (x.a == y.a) with _ | _
  · have HF := Lib.hid (show R = false by rw [H.out, ea]; simp)
    go_enter Try.func13, Try.ntmps13
    go_wp2_with (first | ((with_reducible refine (HQ.out _ (gb_trans (World.grownBy_alloc _ _ none) (World.grownBy_alloc _ _ none))).mono ?_); rintro e w2 ⟨rfl, n2⟩))
    go_ret
    exact ⟨by rw [HF.out]; rfl, gb_trans (World.grownBy_alloc _ _ none) (World.grownBy_alloc _ _ none)⟩
  rcases eg : (x.g == y.g) with _ | _
  · have HF := Lib.hid (show R = false by rw [H.out, eg]; simp)
    go_enter Try.func13, Try.ntmps13
    go_wp2_with (first | ((with_reducible refine (HQ.out _ (gb_trans (World.grownBy_alloc _ _ none) (World.grownBy_alloc _ _ none))).mono ?_); rintro e w2 ⟨rfl, n2⟩))
    go_ret
    exact ⟨by rw [HF.out]; rfl, gb_trans (World.grownBy_alloc _ _ none) (World.grownBy_alloc _ _ none)⟩
  rcases em : (x.m == y.m) with _ | _
  · have HF := Lib.hid (show R = false by rw [H.out, em]; simp)
    go_enter Try.func13, Try.ntmps13
    go_wp2_with (first | ((with_reducible refine (HQ.out _ (gb_trans (World.grownBy_alloc _ _ none) (World.grownBy_alloc _ _ none))).mono ?_); rintro e w2 ⟨rfl, n2⟩))
    go_ret
    exact ⟨by rw [HF.out]; rfl, gb_trans (World.grownBy_alloc _ _ none) (World.grownBy_alloc _ _ none)⟩
  rcases eb : (x.b == y.b) with _ | _
  · have HF := Lib.hid (show R = false by rw [H.out, eb]; simp)
    go_enter Try.func13, Try.ntmps13
    go_wp2_with (first | ((with_reducible refine (HQ.out _ (gb_trans (World.grownBy_alloc _ _ none) (World.grownBy_alloc _ _ none))).mono ?_); rintro e w2 ⟨rfl, n2⟩))
    go_ret
    exact ⟨by rw [HF.out]; rfl, gb_trans (World.grownBy_alloc _ _ none) (World.grownBy_alloc _ _ none)⟩
  have HF := Lib.hid (show R = q by rw [H.out, ea, eg, em, eb]; simp)
  go_enter Try.func13, Try.ntmps13
  go_wp2_with (first | ((with_reducible refine (HQ.out _ (gb_trans (World.grownBy_alloc _ _ none) (World.grownBy_alloc _ _ none))).mono ?_); rintro e w2 ⟨rfl, n2⟩))
  go_ret
  exact ⟨by rw [HF.out]; rfl, gb_trans (gb_trans (World.grownBy_alloc _ _ none) (World.grownBy_alloc _ _ none)) n2⟩
end Go.Proofs.Ytkkkhkkjdjnfhaa

