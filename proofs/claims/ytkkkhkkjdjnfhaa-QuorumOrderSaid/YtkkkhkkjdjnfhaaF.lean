/- Choose's closures, slices.Clone and DeleteFunc over labels. -/
import Derived.Test.YtkkkhkkjdjnfhaaIXL
namespace Go.Proofs.Ytkkkhkkjdjnfhaa
open Go.RowKit Go.BW

theorem wrong_any {w : World} {B : Nat} {x : Lb} (h : LOk w B x) (hB : B ≤ w.heap.size) (hn : x.n ≤ 1000000) : Calls Try.prog 25 #[lv x] w (Ret (.bool (!rightB x)) w) := by
  have hr := right_any (h.nw (World.grownBy_alloc w (.cells #[.int .i64 x.a, .int .i64 x.g, .int .i64 x.m, .int .i64 x.b, .slice x.A x.n x.c] 24) none) hB) (Nat.le_trans hB (World.grownBy_alloc w _ none).size) hn
  obtain ⟨q, hq⟩ : ∃ q, rightB x = q := ⟨_, rfl⟩
  rw [hq] at hr ⊢
  unfold lv Ret at hr
  unfold lv
  have HR := Lib.hid hr
  clear hr
  go_enter Try.func25, Try.ntmps25
  go_wp2_with ((with_reducible refine HR.out.mono ?_); rintro e w2 ⟨rfl, n2⟩)
  go_ret
  exact ⟨rfl, gb_trans (World.grownBy_alloc w _ none) n2⟩
theorem newer_any {w : World} {x y : Lb} (hx : 1 ≤ x.g ∧ x.g ≤ 4294967295) (hy : 1 ≤ y.g ∧ y.g ≤ 4294967295) : Calls Try.prog 27 #[lv x, lv y] w (Ret (.int .i64 (x.g - y.g)) w) := by
  unfold lv
  obtain ⟨h1, h2⟩ := hx
  obtain ⟨h3, h4⟩ := hy
  go_enter Try.func27, Try.ntmps27
  go_wp2
  go_ret
  exact ⟨rfl, gb_trans (World.grownBy_alloc w _ none) (World.grownBy_alloc _ _ none)⟩
/-- a label of the newest that is not the same as the one chosen -/
def clash (y x : Lb) : Bool := x.g == y.g && !sameB x y
set_option maxHeartbeats 1000000 in
theorem clash_any {w : World} {B B' b : Nat} {x y : Lb} (hx : LOk w B x) (hy : LOk w B' y) (hB : B ≤ w.heap.size) (hB' : B' ≤ w.heap.size) (hn : x.n ≤ 1000000) (hm : y.n ≤ 1000000) (ho : Obj1 w b 24 (lc y).toArray) :
    Calls Try.prog 29 #[lv x, .pointer (some ⟨b, 0, none⟩)] w (Ret (.bool (clash y x)) w) := by
  have hq := same_any (w := w.alloc (.cells #[.int .i64 x.a, .int .i64 x.g, .int .i64 x.m, .int .i64 x.b, .slice x.A x.n x.c] 24)) (hx.nw (World.grownBy_alloc w _ none) hB) (hy.nw (World.grownBy_alloc w _ none) hB') (Nat.le_trans hB (World.grownBy_alloc w _ none).size) (Nat.le_trans hB' (World.grownBy_alloc w _ none).size) hn hm
  have hcl : clash y x = (x.g == y.g && !sameB x y) := rfl
  obtain ⟨R, hR⟩ : ∃ R, clash y x = R := ⟨_, rfl⟩
  obtain ⟨q, hqq⟩ : ∃ q, sameB x y = q := ⟨_, rfl⟩
  rw [hR] at hcl ⊢
  rw [hqq] at hq hcl
  unfold lv Ret at hq
  unfold lv
  change Calls Try.prog 30 #[.agg #[.int .i64 x.a, .int .i64 x.g, .int .i64 x.m, .int .i64 x.b, .slice x.A x.n x.c], .agg (lc y).toArray] _ _ at hq
  have HQ := Lib.hid hq; have H := Lib.hid hcl
  have ho' := ho.nw (World.grownBy_alloc w (.cells #[.int .i64 x.a, .int .i64 x.g, .int .i64 x.m, .int .i64 x.b, .slice x.A x.n x.c] 24) none)
  have hbn : b ≠ w.heap.size := by have := ho.lt; omega
  have k1 : (w.alloc (.cells #[.int .i64 x.a, .int .i64 x.g, .int .i64 x.m, .int .i64 x.b, .slice x.A x.n x.c] 24)).cell? ⟨b, 1, none⟩ = some (.int .i64 y.g) := ho'.cell 1
  have HO := Lib.hid ho'
  clear hq hcl hR hqq ho ho' hx hy
  rcases eg : (x.g == y.g) with _ | _
  · have HF := Lib.hid (show R = false by rw [H.out, eg]; rfl)
    go_enter Try.func29, Try.ntmps29
    go_wp2
    go_ret
    exact ⟨by rw [HF.out]; rfl, World.grownBy_alloc w _ none⟩
  · have HF := Lib.hid (show R = !q by rw [H.out, eg]; rfl)
    go_enter Try.func29, Try.ntmps29
    go_wp2_with (first | (refine wpList_load_obj 24 _ rfl rfl rfl HO.out _ Try.underlying24 rfl (by kernel_rfl) ?_) | ((with_reducible refine HQ.out.mono ?_); rintro e w2 ⟨rfl, n2⟩))
    go_ret
    exact ⟨by rw [HF.out]; rfl, gb_trans (World.grownBy_alloc w _ none) n2⟩
/-- whose label it is -/
def ofM (id arr : Int) (x : Lb) : Bool := x.m == id && x.a == arr
theorem ofM_any {w : World} {x : Lb} {p b : Nat} {id arr : Int} (h1 : w.cell? ⟨p, 0, none⟩ = some (.int .i64 id)) (h2 : w.cell? ⟨b, 0, none⟩ = some (.int .i64 arr)) :
    Calls Try.prog 31 #[lv x, .pointer (some ⟨p, 0, none⟩), .pointer (some ⟨b, 0, none⟩)] w (Ret (.bool (ofM id arr x)) w) := by
  have hcl : ofM id arr x = (x.m == id && x.a == arr) := rfl
  obtain ⟨R, hR⟩ : ∃ R, ofM id arr x = R := ⟨_, rfl⟩
  rw [hR] at hcl ⊢
  have k1 := fun o => cell_alloc (o := o) h1
  have k2 := fun o => cell_alloc (o := o) h2
  have H := Lib.hid hcl
  unfold lv
  clear hR hcl
  rcases e : (x.m == id) with _ | _
  · have HF := Lib.hid (show R = false by rw [H.out, e]; rfl)
    go_enter Try.func31, Try.ntmps31
    go_wp2
    go_ret
    exact ⟨by rw [HF.out]; rfl, World.grownBy_alloc w _ none⟩
  · have HF := Lib.hid (show R = (x.a == arr) by rw [H.out, e]; rfl)
    obtain ⟨q, hq⟩ : ∃ q, (x.a == arr) = q := ⟨_, rfl⟩
    rw [hq] at HF
    go_enter Try.func31, Try.ntmps31
    go_wp2
    go_ret
    exact ⟨by rw [HF.out]; rfl, World.grownBy_alloc w _ none⟩
theorem cloneL_any {w : World} {B n c : Nat} {A : Option Addr} {ls : List Lb} (hr : Rd w B 5 A n (fl lc ls)) (hB : B ≤ w.heap.size) (hn : n ≤ 1000000) : Calls Try.prog 24 #[.slice A n c] w (RetOwn 24 5 (fl lc ls) w) := by
  have h1 := lc_one ls
  have hs : n * 56 ≤ 140737488355328 ∧ n ≤ maxLen := by unfold maxLen; omega
  have qn := fun (w : World) (A : Option Addr) => Lib.run_eql_slice_nil (P := Try.prog) w 33 24 A n c 0 0 Try.underlying33
  rcases A with _ | a
  · have h0 : n = 0 := by
      rcases Nat.eq_zero_or_pos n with h | h
      · exact h
      · obtain ⟨_, _, h, _⟩ := hr.2 h; cases h
    subst h0
    have e : fl lc ls = [] := List.eq_nil_of_length_eq_zero (by simpa using hr.1)
    rw [e]
    go_enter Try.func24, Try.ntmps24
    go_wp2
    go_ret
    exact ⟨none, 0, 0, rfl, Own.nil, Nw.refl _⟩
  · go_enter Try.func24, Try.ntmps24
    go_wp2_with (at_builtin; refine wpList_app_lit T33 _ _ rfl rfl w.heap.size rfl rfl hr hB h1 hs (Nat.le_refl _) ?_; intro A' c' w' h2 h3)
    go_ret
    exact ⟨_, _, _, rfl, h2, h3⟩
end Go.Proofs.Ytkkkhkkjdjnfhaa

