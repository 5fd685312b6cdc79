/- What slices.Clone of members returns, and the statements' cut and three. -/
import Derived.Test.YtkkkhkkjdjnfhaaLA
import Derived.Test.YtkkkhkkjdjnfhaaRes
import Derived.Lib.SliceRun
import Derived.Deep.DeepCutAuto
namespace Go.Proofs.Ytkkkhkkjdjnfhaa
open Go.RowKit Go.BW

theorem clone_any {w : World} {B n c : Nat} {A : Option Addr} {ms : List Mem} (hr : Rd w B 3 A n (fl mc ms)) (hB : B ≤ w.heap.size) (hn : n ≤ 1000000) : Calls Try.prog 22 #[.slice A n c] w (RetOwn 28 3 (fl mc ms) w) := by
  have h1 := mc_one ms
  have hs : n * 24 ≤ 140737488355328 ∧ n ≤ maxLen := by unfold maxLen; omega
  have qn := fun (w : World) (A : Option Addr) => Lib.run_eql_slice_nil (P := Try.prog) w 22 28 A n c 0 0 Try.underlying22
  rcases A with _ | a
  · have h0 : n = 0 := by
      rcases Nat.eq_zero_or_pos n with h | h
      · exact h
      · obtain ⟨_, _, h, _⟩ := hr.2 h; cases h
    subst h0
    have e : fl mc ms = [] := List.eq_nil_of_length_eq_zero (by simpa using hr.1)
    rw [e]
    go_enter Try.func22, Try.ntmps22
    go_wp2
    go_ret
    exact ⟨none, 0, 0, rfl, Own.nil, Nw.refl _⟩
  · go_enter Try.func22, Try.ntmps22
    go_wp2_with (at_builtin; refine wpList_app_lit T22 _ _ rfl rfl w.heap.size rfl rfl hr hB h1 hs (Nat.le_refl _) ?_; intro A' c' w' h2 h3)
    go_ret
    exact ⟨_, _, _, rfl, h2, h3⟩
theorem lc_one1 (a g m b : Int) (A : Option Addr) (n c : Nat) : ∀ u ∈ [Value.int .i64 a, .int .i64 g, .int .i64 m, .int .i64 b, .slice A n c], u.oneCell' = true := by
  intro u hu; simp at hu; rcases hu with rfl | rfl | rfl | rfl | rfl <;> rfl
theorem cut_len (n M : Nat) : ∃ k : Nat, (if (M : Int) < (n : Int) then (M : Int) else n) = (k : Int) ∧ k = min n M := by
  refine ⟨min n M, ?_, rfl⟩
  split <;> omega
def CutPost (x : Lb) (w : World) (e : Ending) (w' : World) : Prop :=
  ∃ A' n' c', e = .returned (lv ⟨x.a, x.g, x.m, x.b, A', n', c', x.ms.take 20⟩) ∧ Own w' w.heap.size 28 3 A' n' c' (fl mc (x.ms.take 20)) ∧ Nw w w'
set_option maxHeartbeats 4000000 in
theorem cut_any {w : World} {B : Nat} {x : Lb} (h : LOk w B x) (hB : B ≤ w.heap.size) : Calls Try.prog 9 #[lv x] w (CutPost x w) := by
  obtain ⟨i0, hi0, hz0, hs0, _⟩ := T33.info
  have H0 := Lib.hid hi0; have HZ := Lib.hid hz0
  obtain ⟨k, hk, hkm⟩ := cut_len x.n 20
  have HK := Lib.hid (show (if (20 : Int) < (x.n : Int) then (20 : Int) else (x.n : Int)) = (k : Int) from hk)
  have hlen := h.len
  obtain ⟨hr, hnc, hcm⟩ := h
  have hrk := hr.takeL mc_len (k := k) (by omega)
  have hms : x.ms.take k = x.ms.take 20 := by
    rcases Nat.le_total x.n 20 with h | h
    · rw [List.take_of_length_le (by omega), List.take_of_length_le (by omega)]
    · rw [show k = 20 by omega]
  rw [hms] at hrk
  have hkc : k ≤ x.c := by omega
  have h1 := mc_one (x.ms.take 20)
  have hs : k * 24 ≤ 140737488355328 ∧ k ≤ maxLen := by unfold maxLen; omega
  have hbox := Obj1.new w 24 #[.int .i64 x.a, .int .i64 x.g, .int .i64 x.m, .int .i64 x.b, .slice x.A x.n x.c]
  unfold lv
  have hP : ∀ A' n' c' w', CutPost x w (.returned (.agg #[.int .i64 x.a, .int .i64 x.g, .int .i64 x.m, .int .i64 x.b, .slice A' n' c'])) w' ↔ (Own w' w.heap.size 28 3 A' n' c' (fl mc (x.ms.take 20)) ∧ Nw w w') := by
    intro A' n' c' w'
    constructor
    · rintro ⟨A2, n2, c2, e, h1, h2⟩
      unfold lv at e
      simp only [Ending.returned.injEq, Value.agg.injEq, Array.mk.injEq, List.cons.injEq, Value.slice.injEq, and_true, true_and] at e
      obtain ⟨rfl, rfl, rfl⟩ := e
      exact ⟨h1, h2⟩
    · rintro ⟨h1, h2⟩; exact ⟨_, _, _, rfl, h1, h2⟩
  have HP := Lib.hid hP
  obtain ⟨a, g, m, b, A, n, c, ms⟩ := x
  simp only at HK hr hnc hcm hrk hkc h1 hbox HP ⊢
  have HR := Lib.hid hrk
  generalize ms.take 20 = mt at *
  clear hi0 hz0 hs0 hk hkm hms hr hlen hrk hP
  obtain ⟨X, hX⟩ : ∃ X : Lb, X = ⟨a, g, m, b, A, n, c, ms⟩ := ⟨_, rfl⟩
  rw [← hX] at HP ⊢
  clear hX
  have ho1 := obj_fst w 24 #[.int .i64 a, .int .i64 g, .int .i64 m, .int .i64 b, .slice A n c] (.cells #[.int .i64 0, .int .i64 0, .int .i64 0, .int .i64 0, .slice none 0 0] 24)
  have ho2 := obj_snd w (.cells #[.int .i64 a, .int .i64 g, .int .i64 m, .int .i64 b, .slice A n c] 24) 24 #[.int .i64 0, .int .i64 0, .int .i64 0, .int .i64 0, .slice none 0 0]
  have hn2 := gb_trans (World.grownBy_alloc w (.cells #[.int .i64 a, .int .i64 g, .int .i64 m, .int .i64 b, .slice A n c] 24) none) (World.grownBy_alloc _ (.cells #[.int .i64 0, .int .i64 0, .int .i64 0, .int .i64 0, .slice none 0 0] 24) none)
  have HO1 := Lib.hid ho1; have HO2 := Lib.hid ho2; have N2 := Lib.hid hn2
  clear hbox
  go_enter Try.func9, Try.ntmps9
  go_upto_region 1 with fail
  obtain ⟨W, hW⟩ : ∃ W, (w.alloc (.cells #[.int .i64 a, .int .i64 g, .int .i64 m, .int .i64 b, .slice A n c] 24)).alloc (.cells #[.int .i64 0, .int .i64 0, .int .i64 0, .int .i64 0, .slice none 0 0] 24) = W := ⟨_, rfl⟩
  obtain ⟨y, hy⟩ : ∃ y, w.heap.size = y := ⟨_, rfl⟩
  rw [hW] at ho1 ho2 hn2 ⊢
  have hyz : y ≠ y + 1 := by omega
  rw [hy] at ho1 ho2 ⊢
  have HO1 := Lib.hid ho1; have HO2 := Lib.hid ho2; have N2 := Lib.hid hn2
  have hc4 := fun o => cell_alloc (o := o) (show W.cell? ⟨y, 4, none⟩ = some (.slice A n c) from ho1.cell 4)
  obtain ⟨z, hz⟩ : ∃ z, y + 1 = z := ⟨_, rfl⟩
  rw [hz] at HO2 hyz ⊢
  have hyw : w.heap.size ≤ y := by omega
  have hzw : w.heap.size ≤ z := by omega
  clear ho1 ho2 hn2 hW hz hy
  go_wp2_with (first
    | (refine wpList_store_obj 24 _ _ rfl rfl [.int .i64 a, .int .i64 g, .int .i64 m, .int .i64 b, .slice A' k c'] rfl rfl rfl (by kernel_rfl) (lc_one1 a g m b A' k c') Q2.out rfl ?_; intro w4 s1 s2)
    | (refine wpList_load_obj 24 _ rfl rfl rfl Q1.out _ Try.underlying24 rfl (by kernel_rfl) ?_)
    | (at_builtin; refine wpList_app_lit T22 _ _ rfl rfl w.heap.size rfl rfl (HR.out.nw N2.out hB) (Nat.le_trans hB N2.out.size) h1 hs N2.out.size ?_; intro A' c' w3 h2 h3; have P1 := Lib.hid (HO1.out.nw h3); have P2 := Lib.hid (HO2.out.nw h3); have N3 := Lib.hid (gb_trans N2.out h3); have hcell := P1.out.cell 4; have hfz := P1.out.frozen 4; have Q1 := Lib.hid (show Obj1 (w3.setCell ⟨y, 4, none⟩ (.slice A' k c')) y 24 #[.int .i64 a, .int .i64 g, .int .i64 m, .int .i64 b, .slice A' k c'] from P1.out.set 4 _); have Q2 := Lib.hid (P2.out.chg (Chg.set w3 (p := ⟨y, 4, none⟩) (F := [y]) (by simp) (.slice A' k c')) (by simpa using Ne.symm hyz)))
    | (refine wpList_slice_hi 22 28 Try.underlying22 (size := 3) (by kernel_rfl) _ _ rfl rfl A n c k rfl rfl hkc ?_)
    | (refine wpList_min_int _ _ _ rfl rfl (n : Int) 20 rfl rfl HK.out ?_))
  refine bodyPost_ret (res_cell rfl _ _ _ 24 _ _ rfl s1 Try.underlying24 rfl (by kernel_rfl)) rfl ?_
  have g1 : w3.grownBy (w3.setCell ⟨y, 4, none⟩ (.slice A' k c')) (some y) := gb_set (gb_nw (Nw.refl w3)) (.inl rfl) _
  have o1 := h2.kept g1 (fun r hr e => by injection hr with hr; subst hr; obtain ⟨cur, ho⟩ := h2.rowObj _ e; exact ho.ne P1.out (by decide) rfl)
  have o2 := o1.kept s2 (fun r hr e => by injection hr with hr; subst hr; obtain ⟨cur, ho⟩ := o1.rowObj _ e; exact ho.ne Q2.out (by decide) rfl)
  exact (HP.out A' k c' w4).2 ⟨o2, nw_of_gb (nw_of_gb N3.out g1 (fun r hr => by injection hr with hr; omega)) s2 (fun r hr => by injection hr with hr; omega)⟩
theorem three_any (g m : Int) (w : World) : Calls Try.prog 14 #[.int .i64 g, .int .i64 m] w
    (fun e w' => ∃ A n c, e = .returned (lv ⟨9, g, m, 16, A, n, c, [⟨0, 200, 0⟩, ⟨1, 300, 0⟩, ⟨2, 160, 0⟩]⟩) ∧ Own w' w.heap.size 28 3 A n c (fl mc [⟨0, 200, 0⟩, ⟨1, 300, 0⟩, ⟨2, 160, 0⟩]) ∧ Nw w w') := by
  unfold lv
  go_enter Try.func14, Try.ntmps14
  go_wp2
  refine bodyPost_ret (res_cell rfl _ _ _ 24 _ _ rfl (obj_fst _ _ _ _) Try.underlying24 rfl (by kernel_rfl)) rfl ?_
  exact ⟨_, _, _, rfl, (obj_snd w _ 28 _).ownN rfl (by omega) (by unfold maxLen; decide), gb_trans (World.grownBy_alloc w _ none) (World.grownBy_alloc _ _ none)⟩
end Go.Proofs.Ytkkkhkkjdjnfhaa

