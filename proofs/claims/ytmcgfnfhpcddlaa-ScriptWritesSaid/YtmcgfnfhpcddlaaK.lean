/- What the law's cut returns, for all scripts. -/
import Derived.Test.YtmcgfnfhpcddlaaJ
namespace Go.Proofs.Ytmcgfnfhpcddlaa
open Go.RowKit Go.BW

theorem cut_len (n M : Nat) : ∃ k : Nat, (if (M : Int) < (n : Int) then (M : Int) else n) = (k : Int) ∧ k = min n M := by
  refine ⟨min n M, ?_, rfl⟩
  split <;> omega
theorem take_min {α : Type} (l : List α) {n k M : Nat} (hl : l.length = n) (hk : k = min n M) : l.take k = l.take M := by
  rcases Nat.le_total n M with h | h
  · rw [List.take_of_length_le (by omega), List.take_of_length_le (by omega)]
  · rw [show k = M by omega]
theorem ints_one (l : List Int) : ∀ u ∈ l.map iv, u.oneCell' = true := by
  intro u hu; obtain ⟨x, _, rfl⟩ := List.mem_map.1 hu; rfl
theorem acts_one (l : List Act) : ∀ u ∈ fl actC l, u.oneCell' = true := by
  intro u hu
  unfold fl at hu
  rw [List.mem_flatten] at hu
  obtain ⟨cs, hcs, hu⟩ := hu
  obtain ⟨a, _, rfl⟩ := List.mem_map.1 hcs
  exact actC_one a u hu
def ScPost (s : Scr) (w : World) (e : Ending) (w' : World) : Prop :=
  ∃ (A D : Option Addr) (n c m d : Nat), e = .returned (.agg #[.int .i64 s.num, .slice A n c, .int .i64 s.bl, .slice D m d]) ∧ Own w' w.heap.size 3 1 A n c (s.sz.map iv) ∧ Own w' w.heap.size 44 69 D m d (fl actC s.acts) ∧ Nw w w'
set_option maxRecDepth 100000 in
set_option maxHeartbeats 8000000 in
theorem cut_any {w : World} {B : Nat} {x : Sc} (h : SOk w B x) (hB : B ≤ w.heap.size) : Calls Try.prog 13 #[sv x] w (ScPost (cutS (scr x)) w) := by
  have hzl := h.zl; have hal := h.al
  obtain ⟨k, hk, hkm⟩ := cut_len x.n 15
  obtain ⟨j, hj, hjm⟩ := cut_len x.m 125
  have HK := Lib.hid (show (if (15 : Int) < (x.n : Int) then (15 : Int) else (x.n : Int)) = (k : Int) from hk)
  have HJ := Lib.hid (show (if (125 : Int) < (x.m : Int) then (125 : Int) else (x.m : Int)) = (j : Int) from hj)
  have hz := h.z.take (k := k) (by omega)
  have ha := h.a.takeL actC_len (k := j) (by omega)
  rw [Nat.mul_one, ← List.map_take, take_min _ hzl hkm] at hz
  rw [take_min _ hal hjm] at ha
  have hkc : k ≤ x.c := by have := h.zc; omega
  have hjc : j ≤ x.d := by have := h.ac; omega
  have hk15 : k ≤ 15 := by omega
  have hj125 : j ≤ 125 := by omega
  have HZ := Lib.hid hz; have HA := Lib.hid ha
  have o1z := ints_one (x.sz.take 15); have o1a := acts_one (x.acts.take 125)
  unfold ScPost cutS scr sv
  obtain ⟨num, A, n, c, sz, bl, D, m, d, acts⟩ := x
  simp only at HK HJ HZ HA hkc hjc o1z o1a ⊢
  generalize sz.take 15 = sz' at *
  generalize acts.take 125 = acts' at *
  have b1 := obj_fst w 25 #[.int .i64 num, .slice A n c, .int .i64 bl, .slice D m d] (.cells #[.int .i64 0, .slice Option.none 0 0, .int .i64 0, .slice Option.none 0 0] 25)
  have b2 := obj_snd w (.cells #[.int .i64 num, .slice A n c, .int .i64 bl, .slice D m d] 25) 25 #[.int .i64 0, .slice Option.none 0 0, .int .i64 0, .slice Option.none 0 0]
  have g2 := gb_trans (World.grownBy_alloc w (.cells #[.int .i64 num, .slice A n c, .int .i64 bl, .slice D m d] 25) none) (World.grownBy_alloc _ (.cells #[.int .i64 0, .slice Option.none 0 0, .int .i64 0, .slice Option.none 0 0] 25) none)
  clear hz ha hk hj hkm hjm h hzl hal
  go_enter Try.func13, Try.ntmps13
  go_upto_region 1 with fail
  obtain ⟨V, hV⟩ : ∃ V, (w.alloc (.cells #[.int .i64 num, .slice A n c, .int .i64 bl, .slice D m d] 25)).alloc (.cells #[.int .i64 0, .slice Option.none 0 0, .int .i64 0, .slice Option.none 0 0] 25) = V := ⟨_, rfl⟩
  rw [hV] at b1 b2 g2
  rw [hV]
  obtain ⟨y, hy⟩ : ∃ y, w.heap.size = y := ⟨_, rfl⟩
  rw [hy] at b1 b2 ⊢
  obtain ⟨z, hz⟩ : ∃ z, y + 1 = z := ⟨_, rfl⟩
  rw [hz] at b2
  rw [hz]
  have hyz : y ≠ z := by omega
  have hwy : w.heap.size ≤ y := by omega
  have hwz : w.heap.size ≤ z := by omega
  have B1 := Lib.hid b1; have B2 := Lib.hid b2; have N2 := Lib.hid g2
  have gE := World.grownBy_alloc V (.cells #[] 3) none
  have c1 := (b1.nw gE).cell 1
  clear b1 b2 g2 hV hz gE
  go_upto_region 2 with (first
    | ((with_reducible refine wpList_store_obj' 22 _ _ (by with_unfolding_all exact rfl) (by with_unfolding_all exact rfl) (i := 1) (.slice A3 k c3) (by with_unfolding_all exact rfl) (by with_unfolding_all exact rfl) (by kernel_rfl) (by with_unfolding_all exact rfl) P3.out (by with_unfolding_all exact rfl) (by with_unfolding_all exact rfl) ?_); intro w4 s4 g4)
    | (at_builtin; refine wpList_app_lit T22 _ _ rfl rfl w.heap.size rfl rfl (HZ.out.nw N2.out hB) (Nat.le_trans hB N2.out.size) o1z (by unfold maxLen; omega) N2.out.size ?_; intro A3 c3 w3 o3 n3; have P3 := Lib.hid (B1.out.nw n3); have Q3 := Lib.hid (B2.out.nw n3); have N3 := Lib.hid (gb_trans N2.out n3); have O3 := Lib.hid o3)
    | (refine wpList_slice_hi 22 3 Try.underlying22 (size := 1) (by kernel_rfl) _ _ rfl rfl A n c k rfl rfl hkc ?_)
    | (refine wpList_min_int _ _ _ rfl rfl (n : Int) 15 rfl rfl HK.out ?_))
  have B4 := Lib.hid (show Obj1 w4 y 25 #[.int .i64 num, .slice A3 k c3, .int .i64 bl, .slice D m d] from s4)
  have Q4 := Lib.hid (Obj1.kept'' Q3.out g4 (fun r hr => by injection hr with hr; omega))
  have N4 := Lib.hid (nw_of_gb N3.out g4 (fun q hq => by injection hq with hq; omega))
  have O4 := Lib.hid (own_keep25 O3.out P3.out g4)
  have gE := World.grownBy_alloc w4 (.cells #[] 44) none
  have c3' := (B4.out.nw gE).cell 3
  clear s4 g4 P3 Q3 N3 O3 o3 n3 c1 gE
  go_upto_region 3 with (first
    | ((with_reducible refine wpList_store_obj' 23 _ _ (by with_unfolding_all exact rfl) (by with_unfolding_all exact rfl) (i := 3) (.slice A5 j c5) (by with_unfolding_all exact rfl) (by with_unfolding_all exact rfl) (by kernel_rfl) (by with_unfolding_all exact rfl) P5.out (by with_unfolding_all exact rfl) (by with_unfolding_all exact rfl) ?_); intro w6 s6 g6)
    | (at_builtin; refine wpList_app_lit T23 _ _ rfl rfl w.heap.size rfl rfl (HA.out.nw N4.out hB) (Nat.le_trans hB N4.out.size) o1a (by unfold maxLen; omega) N4.out.size ?_; intro A5 c5 w5 o5 n5; have P5 := Lib.hid (B4.out.nw n5); have Q5 := Lib.hid (Q4.out.nw n5); have N5 := Lib.hid (gb_trans N4.out n5); have O5 := Lib.hid o5; have Z5 := Lib.hid (O4.out.nw n5))
    | (refine wpList_slice_hi 23 44 Try.underlying23 (size := 69) (by kernel_rfl) _ _ rfl rfl D m d j rfl rfl hjc ?_)
    | (refine wpList_min_int _ _ _ rfl rfl (m : Int) 125 rfl rfl HJ.out ?_))
  have B6 := Lib.hid (show Obj1 w6 y 25 #[.int .i64 num, .slice A3 k c3, .int .i64 bl, .slice A5 j c5] from s6)
  have Q6 := Lib.hid (Obj1.kept'' Q5.out g6 (fun r hr => by injection hr with hr; omega))
  have N6 := Lib.hid (nw_of_gb N5.out g6 (fun q hq => by injection hq with hq; omega))
  have Z6 := Lib.hid (own_keep25 Z5.out P5.out g6); have O6 := Lib.hid (own_keep25 O5.out P5.out g6)
  clear s6 g6 P5 Q5 N5 O5 Z5 o5 n5 c3'
  go_wp2_with (first
    | ((with_reducible refine wpList_store_obj 25 _ _ (by with_unfolding_all exact rfl) (by with_unfolding_all exact rfl) [.int .i64 num, .slice A3 k c3, .int .i64 bl, .slice A5 j c5] (by with_unfolding_all exact rfl) (by with_unfolding_all exact rfl) (by with_unfolding_all exact rfl) (by kernel_rfl) (sc_one _ _ _ _ _ _ _ _) Q6.out (by with_unfolding_all exact rfl) ?_); intro w7 s7 g7)
    | ((with_reducible refine wpList_load_obj 25 _ (by with_unfolding_all exact rfl) (by with_unfolding_all exact rfl) (by with_unfolding_all exact rfl) B6.out _ Try.underlying25 (by with_unfolding_all exact rfl) (by kernel_rfl) ?_)))
  refine bodyPost_ret (res_cell rfl _ _ _ 25 _ _ rfl s7 Try.underlying25 rfl (by kernel_rfl)) rfl ?_
  exact ⟨_, _, _, _, _, _, rfl, own_keep25 Z6.out Q6.out g7, own_keep25 O6.out Q6.out g7, nw_of_gb N6.out g7 (fun q hq => by injection hq with hq; omega)⟩
end Go.Proofs.Ytmcgfnfhpcddlaa

