/- slices.Clone of rooms; group.Move: the next group, and its new disk. -/
import Derived.Test.YtobifmndpkjlmaaK
import Derived.Test.YtobifmndpkjlmaaR
import Derived.Test.YtobifmndpkjlmaaIXG
import Derived.Lib.SliceRun
namespace Go.Proofs.Ytobifmndpkjlmaa
open Go.RowKit Go.BW

theorem iv_one (zs : List Int) : ∀ u ∈ zs.map iv, u.oneCell' = true := by
  intro u hu
  obtain ⟨z, _, rfl⟩ := List.mem_map.1 hu
  rfl
theorem clone_any {w : World} {B n c : Nat} {A : Option Addr} {rs : List Int} (hr : Rd w B 1 A n (rs.map iv)) (hB : B ≤ w.heap.size) (hn : n ≤ 1000000) : Calls Try.prog 35 #[.slice A n c] w (RetOwn 3 1 (rs.map iv) w) := by
  have h1 := iv_one rs
  have hs : n * 8 ≤ 140737488355328 ∧ n ≤ maxLen := by unfold maxLen; omega
  have qn := fun (w : World) (A : Option Addr) => Lib.run_eql_slice_nil (P := Try.prog) w 22 3 A n c 0 0 Try.underlying22
  rcases A with _ | a
  · have h0 : n = 0 := by
      rcases Nat.eq_zero_or_pos n with h | h
      · exact h
      · obtain ⟨_, _, h, _⟩ := hr.2 h; cases h
    subst h0
    have e : rs.map iv = [] := List.eq_nil_of_length_eq_zero (by simpa using hr.1)
    rw [e]
    go_enter Try.func35, Try.ntmps35
    go_wp2
    go_ret
    exact ⟨none, 0, 0, rfl, Own.nil, Nw.refl _⟩
  · go_enter Try.func35, Try.ntmps35
    go_wp2_with (at_builtin; refine wpList_app_lit T22 _ _ rfl rfl w.heap.size rfl rfl hr hB h1 hs (Nat.le_refl _) ?_; intro A' c' w' h2 h3)
    go_ret
    exact ⟨_, _, _, rfl, h2, h3⟩
/-- Move's first closure -/
theorem has31_any {w : World} {B y : Nat} {x : Gp} (h : GOk w B x) (hB : B ≤ w.heap.size) {d : Int} (hc : w.cell? ⟨y, 0, none⟩ = some (.int .i64 d)) : Calls Try.prog 31 #[gv x, .pointer (some ⟨y, 0, none⟩)] w (Ret (.bool (hasD x d)) w) := by
  have hbox := Obj1.new w 37 #[.int .i64 x.id, .int .i64 x.kd, .slice x.A x.n x.c]
  have hn := World.grownBy_alloc w (.cells #[.int .i64 x.id, .int .i64 x.kd, .slice x.A x.n x.c] 37) none
  have HH := Lib.hid (has_any (h.nw hn hB) (Nat.le_trans hB hn.size) d)
  have hc2 := cell_alloc (o := .cells #[.int .i64 x.id, .int .i64 x.kd, .slice x.A x.n x.c] 37) hc
  obtain ⟨q, hq⟩ : ∃ q, hasD x d = q := ⟨_, rfl⟩
  rw [hq] at HH ⊢
  have HN := Lib.hid hn
  have HB := Lib.hid hbox
  unfold Ret gv at HH
  unfold gv
  obtain ⟨xi, xk, xA, xn, xc, xe⟩ := x
  simp only at HH HB HN hc2 ⊢
  clear hbox hn h hq
  go_enter Try.func31, Try.ntmps31
  go_wp2_with (first
    | ((with_reducible refine HH.out.mono ?_); rintro e w2 ⟨rfl, n2⟩)
    | ((with_reducible refine wpList_load_obj 37 _ (by with_unfolding_all exact rfl) (by with_unfolding_all exact rfl) (by with_unfolding_all exact rfl) HB.out _ Try.underlying37 (by with_unfolding_all exact rfl) (by kernel_rfl) ?_)))
  go_ret
  exact ⟨rfl, gb_trans HN.out n2⟩
set_option maxHeartbeats 1000000 in
/-- Move's second closure: does the first group not have a disk? -/
theorem not34_any {w : World} {B y z m c2 i : Nat} {A2 : Option Addr} {gs : List Gp} {x : Gp} (hg : GsR w B A2 m gs) (hB : B ≤ w.heap.size) (hc : w.cell? ⟨y, 0, none⟩ = some (.slice A2 m c2)) (hi : w.cell? ⟨z, 0, none⟩ = some (.int .i64 (i : Int))) (hx : gs[i]? = some x) (d : Int) :
    Calls Try.prog 34 #[.int .i64 d, .pointer (some ⟨y, 0, none⟩), .pointer (some ⟨z, 0, none⟩)] w (Ret (.bool (!hasD x d)) w) := by
  have hlen := hg.len
  have him : i < m := by have := (List.getElem?_eq_some_iff.1 hx).1; omega
  have himz : (i : Int) < (m : Int) := by omega
  obtain ⟨_, b, off, x2, hA, _, hx2, hcx⟩ := hg.rd.atL gc_len (by decide) him
  have : x2 = x := by rw [hx] at hx2; injection hx2 with hx2; exact hx2.symm
  subst this
  subst hA
  have HH := Lib.hid (show Calls Try.prog 32 #[.agg (gc x2).toArray, .int .i64 d] w (Ret (.bool (hasD x2 d)) w) from has_any (hg.all x2 (List.mem_of_getElem? hx)) hB d)
  have HC := Lib.hid hcx
  obtain ⟨q, hq⟩ : ∃ q, hasD x2 d = q := ⟨_, rfl⟩
  rw [hq] at HH ⊢
  unfold Ret at HH
  clear hcx hg hx hx2 hq
  go_enter Try.func34, Try.ntmps34
  go_wp2_with (first
    | ((with_reducible refine HH.out.mono ?_); rintro e w2 ⟨rfl, n2⟩)
    | ((with_reducible refine wpList_load_agg 37 _ (by with_unfolding_all exact rfl) (by with_unfolding_all exact rfl) (by with_unfolding_all exact rfl) (gc x2) HC.out _ Try.underlying37 (by with_unfolding_all exact rfl) (by rw [gc_len]; kernel_rfl) ?_)))
  go_ret
  exact ⟨rfl, n2⟩
end Go.Proofs.Ytobifmndpkjlmaa

