/- The reference's map with its row told: what TakeAt, Free and Take change. -/
import Derived.Test.YtoinkofoaodkhaaDoorL
namespace Go.Proofs.YtoinkofoaodkhaaDoor
open Go.RowKit Go.BW Go.BW.Bit

structure RX (wb w : World) (g : Nat) (A : Option Addr) (c : Nat) (bs : List Bool) : Prop where
  obj : Obj1 w g 53 #[.slice A bs.length c]
  row : Own w wb.heap.size 4 1 A bs.length c (bs.map bo)
  ge : wb.heap.size ≤ g
  nw : Nw wb w
  len : bs.length ≤ 65536
def XChg (A : Option Addr) (w w' : World) : Prop := ∃ l cur, A = some ⟨l, 0, none⟩ ∧ Obj1 w l 4 cur ∧ Chg w w' [l]
section
variable {wb wb' w w' : World} {g : Nat} {A : Option Addr} {c : Nat} {bs : List Bool}
theorem RX.rs (h : RX wb w g A c bs) : RS wb w g bs := ⟨⟨A, c, h.obj, h.row⟩, h.ge, h.nw, h.len⟩
theorem RS.rx (h : RS wb w g bs) : ∃ A c, RX wb w g A c bs := by obtain ⟨⟨A, c, h1, h2⟩, h3, h4, h5⟩ := h; exact ⟨A, c, h1, h2, h3, h4, h5⟩
theorem RX.cell (h : RX wb w g A c bs) : w.cell? ⟨g, 0, none⟩ = some (.slice A bs.length c) ∧ Own w wb.heap.size 4 1 A bs.length c (bs.map bo) ∧ Obj1 w g 53 #[.slice A bs.length c] := ⟨h.obj.cell 0, h.row, h.obj⟩
theorem RX.more (h : RX wb w g A c bs) (k : Nw w w') : RX wb w' g A c bs := ⟨h.obj.nw k, h.row.nw k, h.ge, gb_trans h.nw k, h.len⟩
theorem RX.base (h : RX wb' w g A c bs) (k : Nw wb wb') : RX wb w g A c bs := ⟨h.obj, h.row.more k.size, Nat.le_trans k.size h.ge, gb_trans k h.nw, h.len⟩
/-- the program's map changes -/
theorem RX.chgB {gb : Nat} {cs : List Bool} (h : RX wb w g A c bs) (hb : BR w gb cs) (hg : wb.heap.size ≤ gb) (k : Chg w w' [gb]) : RX wb w' g A c bs :=
  ⟨h.obj.chg k (by simpa using h.obj.ne hb.1 (by decide)), own_keep h.row k (fun r hr => by obtain ⟨cur, ho⟩ := h.row.rowObj r hr; simpa using ho.ne hb.1 (by decide)), h.ge, nw_of_chg h.nw k (by intro x hx; simp at hx; subst hx; exact hg), h.len⟩
/-- two rows apart -/
def Apart (A A2 : Option Addr) : Prop := ∀ r l, A = some ⟨r, 0, none⟩ → A2 = some ⟨l, 0, none⟩ → r ≠ l
/-- another map's row changes -/
theorem RX.chgX {A2 : Option Addr} (h : RX wb w g A c bs) (k : XChg A2 w w') (hd : Apart A A2) (n : Nw wb w') : RX wb w' g A c bs := by
  obtain ⟨l, cur, rfl, ho, hc⟩ := k
  refine ⟨h.obj.chg hc (by simpa using h.obj.ne ho (by decide)), own_keep h.row hc (fun r hr => ?_), h.ge, n, h.len⟩
  have : A = some ⟨r, 0, none⟩ := by
    rcases h.row.2 with ⟨e, _⟩ | ⟨g2, _, _, e, _⟩
    · injection e with e; rw [e] at hr; cases hr
    · injection e with e; rw [e] at hr ⊢; injection hr with hr; have hr2 : g2 = r := hr; rw [hr2]
  simpa using hd r l this rfl
theorem BR.chgX {gb : Nat} {cs : List Bool} (h : BR w gb cs) (k : XChg A w w') : BR w' gb cs := by
  obtain ⟨l, cur, _, ho, hc⟩ := k
  exact ⟨h.1.chg hc (by simpa using h.1.ne ho (by decide)), h.2⟩
end
theorem RX.put {wb w : World} {g l c k : Nat} {bs : List Bool} (h : RX wb w g (some ⟨l, 0, none⟩) c bs) (b : Bool) :
    RX wb (w.setCell ⟨l, k, none⟩ (.bool b)) g (some ⟨l, 0, none⟩) c (bs.set k b) ∧ XChg (some ⟨l, 0, none⟩) w (w.setCell ⟨l, k, none⟩ (.bool b)) := by
  obtain ⟨o2, g2⟩ := h.row.set k (bo b)
  rw [← List.map_set] at o2
  obtain ⟨cur, hob⟩ := h.row.obj
  have hl : wb.heap.size ≤ l := h.row.blk l rfl
  have cg := Chg.set w (p := ⟨l, k, none⟩) (F := [l]) (by simp) (.bool b)
  refine ⟨⟨?_, ?_, h.ge, nw_of_chg h.nw cg (by intro x hx; simp at hx; subst hx; exact hl), by rw [List.length_set]; exact h.len⟩, l, cur, rfl, hob, cg⟩
  · rw [List.length_set]; exact h.obj.chg cg (by simpa using h.obj.ne hob (by decide))
  · rw [List.length_set]; exact o2
def XPost (wb : World) (g : Nat) (A : Option Addr) (c : Nat) (r : Int × List Bool) (w : World) (e : Ending) (w' : World) : Prop := e = .returned (.int .i64 r.1) ∧ RX wb w' g A c r.2 ∧ (w' = w ∨ XChg A w w')
def XTake (wb : World) (g : Nat) (A : Option Addr) (c : Nat) (bs : List Bool) (w : World) (e : Ending) (w' : World) : Prop := e = .returned (nextV bs 0) ∧ RX wb w' g A c (takeS bs) ∧ (w' = w ∨ XChg A w w')
theorem xtakeAt_any {wb w : World} {g : Nat} {A : Option Addr} {c : Nat} {bs : List Bool} (h : RX wb w g A c bs) (i : Int) : Calls Tryd.prog 29 #[pv g, .int .i64 i] w (XPost wb g A c (takeF bs i) w) := by
  obtain ⟨hc, ho, hob⟩ := h.cell
  have HS := Lib.hid h; have HOB := Lib.hid hob; have HOW := Lib.hid ho
  obtain ⟨N, hN⟩ : ∃ N, bs.length = N := ⟨_, rfl⟩
  have h5 := h.len
  have HN := Lib.hid hN
  rw [hN] at hc ho h5
  obtain ⟨R, hR⟩ : ∃ R, takeF bs i = R := ⟨_, rfl⟩
  rw [hR]
  have HRR := Lib.hid hR
  clear h hob hN hR
  unfold pv
  rcases (show i < 0 ∨ (¬ i < 0 ∧ (N : Int) ≤ i) ∨ (0 ≤ i ∧ i < N) from by omega) with h0 | ⟨h0, h1⟩ | ⟨h0, h1⟩
  · clear ho
    go_enter Tryd.func29, Tryd.ntmps29
    go_wp2
    go_ret
    rw [← HRR.out, takeF_out (by rw [HN.out]; omega)]
    exact ⟨rfl, HS.out, .inl rfl⟩
  · clear ho
    go_enter Tryd.func29, Tryd.ntmps29
    go_wp2
    go_ret
    rw [← HRR.out, takeF_out (by rw [HN.out]; omega)]
    exact ⟨rfl, HS.out, .inl rfl⟩
  · obtain ⟨k, rfl⟩ : ∃ k : Nat, i = k := ⟨i.toNat, by omega⟩
    have hk : k < N := by omega
    have bk : decide (N ≤ k) = false := by simp; omega
    obtain ⟨l, rfl, _⟩ := ho.some_ (by omega)
    obtain ⟨hck, hfk⟩ := own_bit ho hk
    have HKB := Lib.hid (show k < bs.length from by rw [HN.out]; exact hk)
    cases hv : bs.getD k false with
    | true =>
      rw [hv] at hck
      have HV := Lib.hid hv
      clear ho hv h0 h1
      go_enter Tryd.func29, Tryd.ntmps29
      go_wp2
      go_ret
      rw [← HRR.out, takeF_st HKB.out HV.out]
      exact ⟨rfl, HS.out, .inl rfl⟩
    | false =>
      rw [hv] at hck
      have HV := Lib.hid hv
      clear ho hv h0 h1
      go_enter Tryd.func29, Tryd.ntmps29
      go_wp2
      go_ret
      rw [← HRR.out, takeF_ok HKB.out HV.out]
      obtain ⟨s2, r2⟩ := HS.out.put (k := k) true
      exact ⟨rfl, s2, .inr r2⟩
theorem xfree_any {wb w : World} {g : Nat} {A : Option Addr} {c : Nat} {bs : List Bool} (h : RX wb w g A c bs) (i : Int) : Calls Tryd.prog 30 #[pv g, .int .i64 i] w (XPost wb g A c (freeF bs i) w) := by
  obtain ⟨hc, ho, hob⟩ := h.cell
  have HS := Lib.hid h; have HOB := Lib.hid hob; have HOW := Lib.hid ho
  obtain ⟨N, hN⟩ : ∃ N, bs.length = N := ⟨_, rfl⟩
  have h5 := h.len
  have HN := Lib.hid hN
  rw [hN] at hc ho h5
  obtain ⟨R, hR⟩ : ∃ R, freeF bs i = R := ⟨_, rfl⟩
  rw [hR]
  have HRR := Lib.hid hR
  clear h hob hN hR
  unfold pv
  rcases (show i < 0 ∨ (¬ i < 0 ∧ (N : Int) ≤ i) ∨ (0 ≤ i ∧ i < N) from by omega) with h0 | ⟨h0, h1⟩ | ⟨h0, h1⟩
  · clear ho
    go_enter Tryd.func30, Tryd.ntmps30
    go_wp2
    go_ret
    rw [← HRR.out, freeF_out (by rw [HN.out]; omega)]
    exact ⟨rfl, HS.out, .inl rfl⟩
  · clear ho
    go_enter Tryd.func30, Tryd.ntmps30
    go_wp2
    go_ret
    rw [← HRR.out, freeF_out (by rw [HN.out]; omega)]
    exact ⟨rfl, HS.out, .inl rfl⟩
  · obtain ⟨k, rfl⟩ : ∃ k : Nat, i = k := ⟨i.toNat, by omega⟩
    have hk : k < N := by omega
    have bk : decide (N ≤ k) = false := by simp; omega
    obtain ⟨l, rfl, _⟩ := ho.some_ (by omega)
    obtain ⟨hck, hfk⟩ := own_bit ho hk
    have HKB := Lib.hid (show k < bs.length from by rw [HN.out]; exact hk)
    cases hv : bs.getD k false with
    | false =>
      rw [hv] at hck
      have HV := Lib.hid hv
      clear ho hv h0 h1
      go_enter Tryd.func30, Tryd.ntmps30
      go_wp2
      go_ret
      rw [← HRR.out, freeF_st HKB.out HV.out]
      exact ⟨rfl, HS.out, .inl rfl⟩
    | true =>
      rw [hv] at hck
      have HV := Lib.hid hv
      clear ho hv h0 h1
      go_enter Tryd.func30, Tryd.ntmps30
      go_wp2
      go_ret
      rw [← HRR.out, freeF_ok HKB.out HV.out]
      obtain ⟨s2, r2⟩ := HS.out.put (k := k) false
      exact ⟨rfl, s2, .inr r2⟩
theorem xtake_any {wb w : World} {g : Nat} {A : Option Addr} {c : Nat} {bs : List Bool} (h : RX wb w g A c bs) : Calls Tryd.prog 33 #[pv g] w (XTake wb g A c bs w) := by
  have hx := rnext_any h.rs 0
  unfold XTake takeS
  unfold nextV at hx ⊢
  rw [show (0 : Int).toNat = 0 from rfl] at hx ⊢
  cases hn : nxt bs 0 with
  | none =>
    rw [hn] at hx
    have HB := Lib.hid h
    clear h hn
    unfold pv at hx ⊢
    have HX := Lib.hid hx; clear hx
    go_enter Tryd.func33, Tryd.ntmps33
    go_wp2_with (refine HX.out.mono ?_; rintro e w2 ⟨rfl, rfl⟩)
    go_ret2
    exact ⟨rfl, HB.out, .inl rfl⟩
  | some i =>
    rw [hn] at hx
    have hs := (nxt_some bs 0 i).1 hn
    obtain ⟨hc, ho, hob⟩ := h.cell
    have hi := hs.1
    obtain ⟨l, rfl, _⟩ := ho.some_ (by omega)
    have HS := Lib.hid h; have HOB := Lib.hid hob; have HOW := Lib.hid ho
    obtain ⟨hck, hfk⟩ := own_bit ho hi
    have h5 := h.len
    obtain ⟨N, hN⟩ : ∃ N, bs.length = N := ⟨_, rfl⟩
    rw [hN] at hc hi h5
    clear h hn hs ho hob hN
    unfold pv at hx ⊢
    have HX := Lib.hid hx; clear hx
    go_enter Tryd.func33, Tryd.ntmps33
    go_wp2_with (refine HX.out.mono ?_; rintro e w2 ⟨rfl, rfl⟩)
    go_ret2
    obtain ⟨s2, r2⟩ := HS.out.put (k := i) true
    exact ⟨rfl, s2, .inr r2⟩
/-- what a step on two maps leaves of all others -/
structure Fr (wb : World) (ga : Nat) (A : Option Addr) (w w' : World) : Prop where
  b : ∀ g' cs, g' ≠ ga → BR w g' cs → BR w' g' cs
  x : ∀ g' A' c' cs, Apart A' A → RX wb w g' A' c' cs → RX wb w' g' A' c' cs
  nw : Nw wb w'
section
variable {wb w w' w'' : World} {ga : Nat} {A : Option Addr} {bs : List Bool}
theorem Fr.of_nw (h : Nw wb w) (k : Nw w w') : Fr wb ga A w w' := ⟨fun _ _ _ h => h.nw k, fun _ _ _ _ _ h => h.more k, gb_trans h k⟩
theorem Fr.of_chg (h : Nw wb w) (hb : BR w ga bs) (hg : wb.heap.size ≤ ga) (k : Chg w w' [ga]) : Fr wb ga A w w' :=
  ⟨fun g' cs hne h => ⟨h.1.chg k (by simpa using hne), h.2⟩, fun _ _ _ _ _ h => h.chgB hb hg k, nw_of_chg h k (by intro x hx; simp at hx; subst hx; exact hg)⟩
theorem Fr.of_x (n : Nw wb w') (k : w' = w ∨ XChg A w w') : Fr wb ga A w w' := by
  rcases k with rfl | k
  · exact ⟨fun _ _ _ h => h, fun _ _ _ _ _ h => h, n⟩
  · exact ⟨fun g' cs _ h => h.chgX k, fun _ _ _ _ hd h => h.chgX k hd n, n⟩
theorem Fr.trans (h : Fr wb ga A w w') (k : Fr wb ga A w' w'') : Fr wb ga A w w'' :=
  ⟨fun g' cs hne h2 => k.b g' cs hne (h.b g' cs hne h2), fun g' A' c' cs hd h2 => k.x g' A' c' cs hd (h.x g' A' c' cs hd h2), k.nw⟩
theorem XBR {gb : Nat} {cs : List Bool} (h : BR w gb cs) (k : w' = w ∨ XChg A w w') : BR w' gb cs := by
  rcases k with rfl | k
  · exact h
  · exact h.chgX k
end
def DoesPost (wb : World) (ga gb : Nat) (A : Option Addr) (c N : Nat) (w : World) (e : Ending) (w' : World) : Prop :=
  e = .returned (.bool true) ∧ ∃ bs, BR w' ga bs ∧ RX wb w' gb A c bs ∧ bs.length = N ∧ Fr wb ga A w w'
theorem nextV_is (bs : List Bool) (f : Int) : ∃ v b, nextV bs f = .tuple #[.int .i64 v, .bool b] := by
  unfold nextV
  split
  · exact ⟨_, _, rfl⟩
  · exact ⟨_, _, rfl⟩
theorem takeS_len (bs : List Bool) : (takeS bs).length = bs.length := by unfold takeS; split <;> simp
set_option maxRecDepth 100000 in
set_option maxHeartbeats 8000000 in
theorem does_any {wb w : World} {ga gb : Nat} {A : Option Addr} {c : Nat} {bs : List Bool} (hb : BR w ga bs) (hga : wb.heap.size ≤ ga) (hx : RX wb w gb A c bs) (ht : Tab w) (kd n : Int) (hn : n ≤ 9223372036854775807) :
    Calls Tryd.prog 25 #[pv ga, pv gb, .agg #[.int .i64 kd, .int .i64 n]] w (DoesPost wb ga gb A c bs.length w) := by
  obtain ⟨w1, hw1⟩ : ∃ w1, w1 = w.alloc (.cells #[.int .i64 kd, .int .i64 n] 49) := ⟨_, rfl⟩
  have n1 : Nw w w1 := by rw [hw1]; exact World.grownBy_alloc w _ none
  have Y1 := Lib.hid (show Obj1 w1 w.heap.size 49 #[.int .i64 kd, .int .i64 n] from by rw [hw1]; exact Obj1.new w _ _)
  have B1 := Lib.hid (hb.nw n1); have X1 := Lib.hid (hx.more n1); have T1 := Lib.hid (ht.nw n1); have F1 := Lib.hid (Fr.of_nw (ga := ga) (A := A) hx.nw n1); have HGA := Lib.hid hga
  have HW := Lib.hid hw1
  obtain ⟨N, hN⟩ : ∃ N, bs.length = N := ⟨_, rfl⟩
  rw [hN]
  have HN := Lib.hid hN
  clear hw1 n1 hb hx ht hga hN
  unfold pv
  rcases (show kd = 1 ∨ kd = 2 ∨ kd = 3 ∨ kd = 4 ∨ (kd ≠ 1 ∧ kd ≠ 2 ∧ kd ≠ 3 ∧ kd ≠ 4) from by omega) with rfl | rfl | rfl | rfl | ⟨h1, h2, h3, h4⟩
  · go_enter Tryd.func25, Tryd.ntmps25
    go_wp2_with fail
    rw [← HW.out]
    generalize w.heap.size = y at Y1 ⊢
    clear HW
    have k1 : ∀ w', Obj1 w' y 49 #[.int .i64 1, .int .i64 n] → w'.cell? ⟨y, 1, none⟩ = some (.int .i64 n) := fun w' h => h.cell 1
    refine wp_region_held (S := (fun w' => Obj1 w' y 49 #[.int .i64 1, .int .i64 n])) (by kernel_rfl) ?_
    change wpAnyH _ _ _ _ _ _ _ _ (World.drew w1)
    refine held_seg' (l := [0, 1, 2, 4, 5, 6]) (fuel := 4) rfl (by kernel_rfl) (by kernel_rfl) (by simp only [List.filterMap_cons, List.filterMap_nil, List.getElem?_toArray, List.getElem?_cons_succ, List.getElem?_cons_zero]; rfl) (fun _ _ d _ _ h => by cases d <;> exact h) (Y1.out.nw (gb_drew (Nw.refl w1))) ?_
    iterate 6 (refine wpYield_step rfl (fun K hK => ?_)
               apply Exists.intro
               refine ⟨fun w' hw' => ?_, ?_⟩
               · (go_simp; try with_reducible rfl)
               go_simp
               refine hK _ ?_
               clear hK K)
    refine wpYield_nil ?_
    refine held_eff 3 rfl (by kernel_rfl) rfl (fun K hK => ?_)
    go_simp
    have B1d := Lib.hid (B1.out.nw (gb_drew (Nw.refl w1))); have X1d := Lib.hid (X1.out.more (gb_drew (Nw.refl w1))); have F1d := Lib.hid (F1.out.trans (Fr.of_nw (ga := ga) (A := A) F1.out.nw (gb_drew (Nw.refl w1)))); have Y1d := Lib.hid (Y1.out.nw (gb_drew (Nw.refl w1)))
    refine (takeAt_any B1d.out n).mono ?_
    rintro e w2 ⟨rfl, b2, c2⟩
    have B2 := Lib.hid b2; have X2 := Lib.hid (X1d.out.chgB B1d.out HGA.out c2); have F2 := Lib.hid (F1d.out.trans (Fr.of_chg F1d.out.nw B1d.out HGA.out c2)); have Y2 := Lib.hid (Y1d.out.chg c2 (by simpa using Y1d.out.ne B1d.out.1 (by decide)))
    clear b2 c2
    refine hK _ _ ⟨Y2.out, ?_⟩
    clear hK K
    refine held_eff 7 rfl (by kernel_rfl) rfl (fun K hK => ?_)
    go_simp
    refine (xtakeAt_any X2.out n).mono ?_
    rintro e w3 ⟨rfl, x3, c3⟩
    have B3 := Lib.hid (XBR B2.out c3); have X3 := Lib.hid x3; have F3 := Lib.hid (F2.out.trans (Fr.of_x x3.nw c3))
    have Y3 := Lib.hid (show Obj1 w3 y 49 _ from by
      rcases c3 with rfl | ⟨l, cur, _, ho, hc⟩
      · exact Y2.out
      · exact Y2.out.chg hc (by simpa using Y2.out.ne ho (by decide)))
    clear x3 c3
    refine hK _ _ ⟨Y3.out, ?_⟩
    clear hK K k1
    refine held_seg' (l := [8, 9]) (fuel := 0) rfl (by kernel_rfl) (by kernel_rfl) (by simp only [List.filterMap_cons, List.filterMap_nil, List.getElem?_toArray, List.getElem?_cons_succ, List.getElem?_cons_zero]; rfl) (fun _ _ d _ _ h => by cases d <;> exact h) Y3.out ?_
    iterate 2 (refine wpYield_step rfl (fun K hK => ?_)
               apply Exists.intro
               refine ⟨fun w' hw' => ?_, ?_⟩
               · (go_simp; try with_reducible rfl)
               go_simp
               refine hK _ ?_
               clear hK K)
    refine wpYield_nil ?_
    refine wpAnyH_done (by kernel_rfl) ?_ _
    go_wp2
    go_ret
    exact ⟨rfl, _, B3.out, X3.out, (by rw [takeF_len]; exact HN.out), F3.out⟩
  · go_enter Tryd.func25, Tryd.ntmps25
    go_wp2_with fail
    rw [← HW.out]
    generalize w.heap.size = y at Y1 ⊢
    clear HW
    have k1 : ∀ w', Obj1 w' y 49 #[.int .i64 2, .int .i64 n] → w'.cell? ⟨y, 1, none⟩ = some (.int .i64 n) := fun w' h => h.cell 1
    refine wp_region_held (S := (fun w' => Obj1 w' y 49 #[.int .i64 2, .int .i64 n])) (by kernel_rfl) ?_
    change wpAnyH _ _ _ _ _ _ _ _ (World.drew w1)
    refine held_seg' (l := [0, 1, 2, 4, 5, 6]) (fuel := 4) rfl (by kernel_rfl) (by kernel_rfl) (by simp only [List.filterMap_cons, List.filterMap_nil, List.getElem?_toArray, List.getElem?_cons_succ, List.getElem?_cons_zero]; rfl) (fun _ _ d _ _ h => by cases d <;> exact h) (Y1.out.nw (gb_drew (Nw.refl w1))) ?_
    iterate 6 (refine wpYield_step rfl (fun K hK => ?_)
               apply Exists.intro
               refine ⟨fun w' hw' => ?_, ?_⟩
               · (go_simp; try with_reducible rfl)
               go_simp
               refine hK _ ?_
               clear hK K)
    refine wpYield_nil ?_
    refine held_eff 3 rfl (by kernel_rfl) rfl (fun K hK => ?_)
    go_simp
    have B1d := Lib.hid (B1.out.nw (gb_drew (Nw.refl w1))); have X1d := Lib.hid (X1.out.more (gb_drew (Nw.refl w1))); have F1d := Lib.hid (F1.out.trans (Fr.of_nw (ga := ga) (A := A) F1.out.nw (gb_drew (Nw.refl w1)))); have Y1d := Lib.hid (Y1.out.nw (gb_drew (Nw.refl w1)))
    refine (free_any B1d.out n).mono ?_
    rintro e w2 ⟨rfl, b2, c2⟩
    have B2 := Lib.hid b2; have X2 := Lib.hid (X1d.out.chgB B1d.out HGA.out c2); have F2 := Lib.hid (F1d.out.trans (Fr.of_chg F1d.out.nw B1d.out HGA.out c2)); have Y2 := Lib.hid (Y1d.out.chg c2 (by simpa using Y1d.out.ne B1d.out.1 (by decide)))
    clear b2 c2
    refine hK _ _ ⟨Y2.out, ?_⟩
    clear hK K
    refine held_eff 7 rfl (by kernel_rfl) rfl (fun K hK => ?_)
    go_simp
    refine (xfree_any X2.out n).mono ?_
    rintro e w3 ⟨rfl, x3, c3⟩
    have B3 := Lib.hid (XBR B2.out c3); have X3 := Lib.hid x3; have F3 := Lib.hid (F2.out.trans (Fr.of_x x3.nw c3))
    have Y3 := Lib.hid (show Obj1 w3 y 49 _ from by
      rcases c3 with rfl | ⟨l, cur, _, ho, hc⟩
      · exact Y2.out
      · exact Y2.out.chg hc (by simpa using Y2.out.ne ho (by decide)))
    clear x3 c3
    refine hK _ _ ⟨Y3.out, ?_⟩
    clear hK K k1
    refine held_seg' (l := [8, 9]) (fuel := 0) rfl (by kernel_rfl) (by kernel_rfl) (by simp only [List.filterMap_cons, List.filterMap_nil, List.getElem?_toArray, List.getElem?_cons_succ, List.getElem?_cons_zero]; rfl) (fun _ _ d _ _ h => by cases d <;> exact h) Y3.out ?_
    iterate 2 (refine wpYield_step rfl (fun K hK => ?_)
               apply Exists.intro
               refine ⟨fun w' hw' => ?_, ?_⟩
               · (go_simp; try with_reducible rfl)
               go_simp
               refine hK _ ?_
               clear hK K)
    refine wpYield_nil ?_
    refine wpAnyH_done (by kernel_rfl) ?_ _
    go_wp2
    go_ret
    exact ⟨rfl, _, B3.out, X3.out, (by rw [freeF_len]; exact HN.out), F3.out⟩
  · have d0 := Y1.out.cell 0; have d1 := Y1.out.cell 1
    rw [show (#[Value.int .i64 3, .int .i64 n])[0]? = some (.int .i64 3) from rfl] at d0
    rw [show (#[Value.int .i64 3, .int .i64 n])[1]? = some (.int .i64 n) from rfl] at d1
    obtain ⟨v, b, hvb⟩ := nextV_is bs n
    have hp := next_any B1.out T1.out n hn
    have hq := rnext_any X1.out.rs n
    rw [hvb] at hp hq
    unfold pv at hp hq
    have HP := Lib.hid hp; have HQ := Lib.hid hq; clear hp hq hvb
    go_enter Tryd.func25, Tryd.ntmps25
    go_wp2_with (first | ((with_reducible refine HQ.out.mono ?_); rintro e w3 ⟨rfl, rfl⟩) | (rw [← HW.out]; (with_reducible refine HP.out.mono ?_); rintro e w2 ⟨rfl, rfl⟩))
    go_ret
    exact ⟨rfl, bs, B1.out, X1.out, HN.out, F1.out⟩
  · go_enter Tryd.func25, Tryd.ntmps25
    go_wp2_with fail
    rw [← HW.out]
    generalize w.heap.size = y at Y1 ⊢
    clear HW
    have k1 : ∀ w', Obj1 w' y 49 #[.int .i64 4, .int .i64 n] → w'.cell? ⟨y, 1, none⟩ = some (.int .i64 n) := fun w' h => h.cell 1
    refine wp_region_held (S := (fun w' => Obj1 w' y 49 #[.int .i64 4, .int .i64 n])) (by kernel_rfl) ?_
    change wpAnyH _ _ _ _ _ _ _ _ (World.drew w1)
    refine held_seg' (l := [0, 1, 2, 4, 5, 6]) (fuel := 4) rfl (by kernel_rfl) (by kernel_rfl) (by simp only [List.filterMap_cons, List.filterMap_nil, List.getElem?_toArray, List.getElem?_cons_succ, List.getElem?_cons_zero]; rfl) (fun _ _ d _ _ h => by cases d <;> exact h) (Y1.out.nw (gb_drew (Nw.refl w1))) ?_
    iterate 6 (refine wpYield_step rfl (fun K hK => ?_)
               apply Exists.intro
               refine ⟨fun w' hw' => ?_, ?_⟩
               · (go_simp; try with_reducible rfl)
               go_simp
               refine hK _ ?_
               clear hK K)
    refine wpYield_nil ?_
    refine held_eff 3 rfl (by kernel_rfl) rfl (fun K hK => ?_)
    go_simp
    have B1d := Lib.hid (B1.out.nw (gb_drew (Nw.refl w1))); have X1d := Lib.hid (X1.out.more (gb_drew (Nw.refl w1))); have F1d := Lib.hid (F1.out.trans (Fr.of_nw (ga := ga) (A := A) F1.out.nw (gb_drew (Nw.refl w1)))); have Y1d := Lib.hid (Y1.out.nw (gb_drew (Nw.refl w1)))
    refine (has_any B1d.out n).mono ?_
    rintro e w2 ⟨rfl, rfl⟩
    refine hK _ _ ⟨Y1d.out, ?_⟩
    clear hK K
    refine held_eff 7 rfl (by kernel_rfl) rfl (fun K hK => ?_)
    go_simp
    refine (rhas_any X1d.out.rs n).mono ?_
    rintro e w3 ⟨rfl, rfl⟩
    refine hK _ _ ⟨Y1d.out, ?_⟩
    clear hK K k1
    refine held_seg' (l := [8, 9]) (fuel := 0) rfl (by kernel_rfl) (by kernel_rfl) (by simp only [List.filterMap_cons, List.filterMap_nil, List.getElem?_toArray, List.getElem?_cons_succ, List.getElem?_cons_zero]; rfl) (fun _ _ d _ _ h => by cases d <;> exact h) Y1d.out ?_
    iterate 2 (refine wpYield_step rfl (fun K hK => ?_)
               apply Exists.intro
               refine ⟨fun w' hw' => ?_, ?_⟩
               · (go_simp; try with_reducible rfl)
               go_simp
               refine hK _ ?_
               clear hK K)
    refine wpYield_nil ?_
    refine wpAnyH_done (by kernel_rfl) ?_ _
    go_wp2
    go_ret
    exact ⟨rfl, bs, B1d.out, X1d.out, HN.out, F1d.out⟩
  · have b1 : (kd == 1) = false := by simpa using h1
    have b2 : (kd == 2) = false := by simpa using h2
    have b3 : (kd == 3) = false := by simpa using h3
    have b4 : (kd == 4) = false := by simpa using h4
    clear h1 h2 h3 h4
    obtain ⟨v, b, hvb⟩ := nextV_is bs 0
    have HVB := Lib.hid hvb; clear hvb
    go_enter Tryd.func25, Tryd.ntmps25
    go_wp2_with (first |
      (refine (xtake_any X2.out).mono ?_; rintro e w3 ⟨he, x3, c3⟩; rw [HVB.out] at he; subst he; have B3 := Lib.hid (XBR B2.out c3); have X3 := Lib.hid x3; have F3 := Lib.hid (F2.out.trans (Fr.of_x x3.nw c3)); clear x3 c3) |
      (rw [← HW.out]; refine (take_any B1.out T1.out).mono ?_; rintro e w2 ⟨he, b2', c2⟩; rw [HVB.out] at he; subst he; have B2 := Lib.hid b2'; have X2 := Lib.hid (X1.out.chgB B1.out HGA.out c2); have F2 := Lib.hid (F1.out.trans (Fr.of_chg F1.out.nw B1.out HGA.out c2)); clear b2' c2))
    go_ret
    exact ⟨rfl, _, B3.out, X3.out, by rw [takeS_len]; exact HN.out, F3.out⟩
end Go.Proofs.YtoinkofoaodkhaaDoor

