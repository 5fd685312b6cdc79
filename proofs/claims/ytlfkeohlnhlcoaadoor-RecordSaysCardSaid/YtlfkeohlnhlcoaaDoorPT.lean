/- What Tag.part returns, for every tag of small numbers and every row of at most a thousand bytes. -/
import Derived.Test.YtlfkeohlnhlcoaaDoorZ
import Derived.Test.YtlfkeohlnhlcoaaDoorApp
namespace Go.Proofs.YtlfkeohlnhlcoaaDoor
open Go.RowKit Go.BW

def z64 : Value := .agg (Array.replicate 64 (.int .u8 0))
theorem T24 : El Tryd.prog 24 35 z64 64 64 := El.mk' Tryd.underlying24 (by kernel_rfl) (by simp [z64, Value.cells]) (by decide)
theorem z64_list : z64.cells.toList = (List.replicate 64 (0 : UInt8)).map bv := by simp [z64, Value.cells, bv]
/-- a sector that begins with these bytes -/
def padL (x : List UInt8) : List UInt8 := x.take 64 ++ List.replicate (64 - x.length) 0
theorem padL_len (x : List UInt8) : (padL x).length = 64 := by unfold padL; simp; omega
theorem padL_splice (x : List UInt8) : splice ((List.replicate 64 (0 : UInt8)).map bv) 0 ((x.map bv).take 64) = (padL x).map bv := by
  unfold splice padL
  rw [List.take_zero, List.nil_append, Nat.zero_add, List.map_append, ← List.map_take, ← List.map_drop, List.drop_replicate]
  congr 2
  rw [List.length_map, List.length_take]
  congr 1
  omega
/-- a tag's bytes -/
def headL (g n : Int) (a b c : Nat) : List UInt8 := putL (putL [] g 4) n 4 ++ [UInt8.ofNat a, UInt8.ofNat b, UInt8.ofNat c]
def partL (g n : Int) (a b c : Nat) (ps : List UInt8) : List UInt8 := padL (headL g n a b c ++ ps)
theorem byte_lit {a : Nat} (h : a < 256) : Value.int .u8 (a : Int) = bv (UInt8.ofNat a) := by
  unfold bv; congr 1; simp; omega
set_option maxHeartbeats 1000000 in
theorem part_any {A : Option Addr} {n d : Nat} {ps : List UInt8} {w : World} {g nn : Int} {a b c : Nat} (hg : g ≤ 9223372036854775807) (hn : nn ≤ 9223372036854775807) (ha : a < 256) (hb : b < 256) (hc : c < 256)
    (hr : Rd w w.heap.size 1 A n (ps.map bv)) (hps : n ≤ 1000) :
    Calls Tryd.prog 20 #[tv g nn a b c, .slice A n d] w (Ret (.agg ((partL g nn a b c ps).map bv).toArray) w) := by
  obtain ⟨i0, hi0, hz0, hs0, _⟩ := T24.info
  have H0 := Lib.hid hi0; have HZ := Lib.hid hz0; have HR := Lib.hid hr
  have ea : (a : Int) % 256 = a := by omega
  have eb : (b : Int) % 256 = b := by omega
  have ec : (c : Int) % 256 = c := by omega
  clear hi0 hz0 hs0 hr
  unfold tv
  go_enter Tryd.func20, Tryd.ntmps20
  go_wp2_with (first | (refine wpList_alloc (size := 64) 35 rfl rfl w.heap.size i0 H0.out HZ.out (by simp [z64, Value.cells]) (by simp) ?_; intro y w1 a1 a2 a3))
  have Y1 := Lib.hid (show Obj1 w1 w.heap.size 31 #[.int .i64 g, .int .i64 nn, .int .i64 a, .int .i64 b, .int .i64 c] from (Obj1.new w _ _).nw a2)
  have O1 := Lib.hid a1
  have N1 := Lib.hid (gb_trans (World.grownBy_alloc w _ none) a2)
  have HY := Lib.hid (show w.heap.size ≤ y by simp at a3; omega)
  clear a1 a2 a3
  have hne : Hid (y ≠ w.heap.size) := Lib.hid (by obtain ⟨cur, ho⟩ := O1.out.obj; exact ho.ne Y1.out (by decide))
  obtain ⟨x, hx⟩ : ∃ x, w.heap.size = x := ⟨_, rfl⟩
  rw [hx] at Y1 HY O1 hne HR ⊢
  have HX := Lib.hid hx; clear hx
  have k0 : ∀ w', Obj1 w' x 31 #[.int .i64 g, .int .i64 nn, .int .i64 a, .int .i64 b, .int .i64 c] → w'.cell? ⟨x, 0, none⟩ = some (.int .i64 g) := fun w' h => h.cell 0
  have k1 : ∀ w', Obj1 w' x 31 #[.int .i64 g, .int .i64 nn, .int .i64 a, .int .i64 b, .int .i64 c] → w'.cell? ⟨x, 1, none⟩ = some (.int .i64 nn) := fun w' h => h.cell 1
  refine wp_region_held (S := (fun w' => Obj1 w' x 31 #[.int .i64 g, .int .i64 nn, .int .i64 a, .int .i64 b, .int .i64 c])) (by kernel_rfl) ?_
  change wpAnyH _ _ _ _ _ _ _ _ (World.drew w1)
  refine held_seg' (l := [0, 1, 3, 4]) (fuel := 3) rfl (by kernel_rfl) (by kernel_rfl) (by simp only [List.filterMap_cons, List.filterMap_nil, List.getElem?_toArray, List.getElem?_cons_succ, List.getElem?_cons_zero]; rfl) (fun _ _ d _ _ h => by cases d <;> exact h) (Y1.out.nw (gb_drew (Nw.refl w1))) ?_
  iterate 4 (refine wpYield_step rfl (fun K hK => ?_)
             apply Exists.intro
             refine ⟨fun w' hw' => ?_, ?_⟩
             · (go_simp; try with_reducible rfl)
             go_simp
             refine hK _ ?_
             clear hK K)
  refine wpYield_nil ?_
  refine held_eff 2 rfl (by kernel_rfl) rfl (fun K hK => ?_)
  go_simp
  have hxw : x ≤ w1.drew.heap.size := by have := N1.out.size; rw [HX.out] at this; exact this
  refine (put_any none 0 0 [] g 4 0 _ Rd.nil (Nat.zero_le _) (by decide) (Nat.le_refl _) hg).mono ?_
  rintro e w2 ⟨A2, n2, c2, rfl, o2, m2⟩
  have m2' := gb_of_drew m2
  have Y2 := Lib.hid (Y1.out.nw m2'); have O2 := Lib.hid (O1.out.nw m2'); have N2 := Lib.hid (gb_trans N1.out m2'); have P2 := Lib.hid (o2.more hxw)
  have hxw2 : x ≤ w2.heap.size := Nat.le_trans hxw m2.size
  clear m2 m2' o2 hxw
  have hn2 : n2 ≤ 100 := by have h1 := P2.out.len; have h2 := putL_len [] g 4; rw [List.length_map] at h1; simp at h2; omega
  refine hK _ _ ⟨Y2.out, ?_⟩
  clear hK K
  refine held_eff 5 rfl (by kernel_rfl) rfl (fun K hK => ?_)
  go_simp
  refine (put_any A2 n2 c2 _ nn 4 w2.heap.size _ P2.out.rd (Nat.le_refl _) (by omega) P2.out.cap.1 hn).mono ?_
  rintro e w3 ⟨A3, n3, c3, rfl, o3, m3⟩
  have Y3 := Lib.hid (Y2.out.nw m3); have O3 := Lib.hid (O2.out.nw m3); have N3 := Lib.hid (gb_trans N2.out m3); have P3 := Lib.hid (o3.more hxw2)
  have hxw3 : x ≤ w3.heap.size := Nat.le_trans hxw2 m3.size
  clear m3 o3 hxw2
  have hn3 : n3 ≤ 100 := by have h1 := P3.out.len; have h2 := putL_len [] g 4; have h3 := putL_len (putL [] g 4) nn 4; rw [List.length_map] at h1; simp at h2; omega
  refine hK _ _ ⟨Y3.out, ?_⟩
  clear hK K
  refine held_seg' (l := [6]) (fuel := 0) rfl (by kernel_rfl) (by kernel_rfl) (by simp only [List.filterMap_cons, List.filterMap_nil, List.getElem?_toArray, List.getElem?_cons_succ, List.getElem?_cons_zero]; rfl) (fun _ _ d _ _ h => by cases d <;> exact h) Y3.out ?_
  (refine wpYield_step rfl (fun K hK => ?_)
   apply Exists.intro
   refine ⟨fun w' hw' => ?_, ?_⟩
   · (go_simp; try with_reducible rfl)
   go_simp
   refine hK _ ?_
   clear hK K)
  refine wpYield_nil ?_
  refine wpAnyH_done (by kernel_rfl) ?_ _
  have k2 : w3.cell? ⟨x, 2, none⟩ = some (.int .i64 a) := Y3.out.cell 2
  have k3 : w3.cell? ⟨x, 3, none⟩ = some (.int .i64 b) := Y3.out.cell 3
  have k4 : w3.cell? ⟨x, 4, none⟩ = some (.int .i64 c) := Y3.out.cell 4
  clear k0 k1
  have hone : ∀ u ∈ [Value.int .u8 (a : Int), .int .u8 (b : Int), .int .u8 (c : Int)], u.oneCell' = true := by intro u hu; simp at hu; rcases hu with rfl | rfl | rfl <;> rfl
  have hnot : ∀ (w' : World) (A' : Option Addr) (n' c' : Nat) (cs : List Value) (zs : Array Value), Own w' x 5 1 A' n' c' cs → Obj1 w' y 35 zs → (Value.slice A' n' c').ownBlock ≠ some y := by
    intro w' A' n' c' cs zs h1 h2 h3
    obtain ⟨cur, h4⟩ := h1.rowObj y h3
    exact absurd rfl (h4.ne h2 (by decide))
  go_wp2_with (at_builtin; refine wpList_appM_own (m := 3) T22 _ _ rfl rfl rfl rfl P3.out rfl hone (by unfold maxLen; omega) hxw3 ?_; intro A4 c4 w4 p4 m4)
  have hrow : (putL (putL [] g 4) nn 4).map bv ++ [Value.int .u8 (a : Int), .int .u8 (b : Int), .int .u8 (c : Int)] = (headL g nn a b c).map bv := by
    unfold headL; rw [List.map_append, byte_lit ha, byte_lit hb, byte_lit hc]; rfl
  rw [hrow] at p4
  have hxy : ∀ r, (Value.slice A3 n3 c3).ownBlock = some r → r ≠ y := by intro r hr e; subst e; exact hnot _ _ _ _ _ _ P3.out O3.out.row1' hr
  have N4 := Lib.hid (nw_of_gb N3.out m4 (fun r hr => by have := P3.out.blk r hr; rw [HX.out]; exact this))
  have O4 := Lib.hid (O3.out.kept m4 (fun r hr e => hxy r hr (by injection e with e; exact e.symm)))
  have P4 := Lib.hid p4
  have hxw4 : x ≤ w4.heap.size := Nat.le_trans hxw3 m4.size
  clear m4 p4 hrow hxy k2 k3 k4 hxw3 hone
  refine wp_region_held (S := (fun _ => True)) (by kernel_rfl) ?_
  change wpAnyH _ _ _ _ _ _ _ _ (World.drew w4)
  refine held_seg' (l := [0, 1, 2]) (fuel := 2) rfl (by kernel_rfl) (by kernel_rfl) (by simp only [List.filterMap_cons, List.filterMap_nil, List.getElem?_toArray, List.getElem?_cons_succ, List.getElem?_cons_zero]; rfl) (fun _ _ d _ _ h => by cases d <;> exact h) trivial ?_
  iterate 3 (refine wpYield_step rfl (fun K hK => ?_)
             apply Exists.intro
             refine ⟨fun w' hw' => ?_, ?_⟩
             · (go_simp; try with_reducible rfl)
             go_simp
             refine hK _ ?_
             clear hK K)
  refine wpYield_nil ?_
  refine held_eff 3 rfl (by kernel_rfl) rfl (fun K hK => ?_)
  refine wp_app_own T22 _ _ rfl rfl rfl P4.out.drew (HR.out.nw (gb_drew N4.out) (by rw [HX.out]; exact Nat.le_refl _)) (bv_one _) (by unfold maxLen; omega) hxw4 ?_
  intro A5 c5 w5 p5 m5 _
  have hxy : ∀ r, (Value.slice A4 (n3 + 3) c4).ownBlock = some r → r ≠ y := by intro r hr e; subst e; exact hnot _ _ _ _ _ _ P4.out O4.out.row1' hr
  have N5 := Lib.hid (nw_of_gb (gb_drew N4.out) m5 (fun r hr => by have := P4.out.blk r hr; rw [HX.out]; exact this))
  have O5 := Lib.hid (O4.out.drew.kept m5 (fun r hr e => hxy r hr (by injection e with e; exact e.symm)))
  rw [← List.map_append] at p5
  have P5 := Lib.hid p5
  clear m5 p5 hxy
  refine hK _ _ ⟨trivial, ?_⟩
  clear hK K
  refine held_eff 4 rfl (by kernel_rfl) rfl (fun K hK => ?_)
  refine wp_copy 22 22 5 Tryd.underlying22 (by kernel_rfl) _ _ rfl rfl rfl O5.out P5.out.rd (bv_one _) (by rw [Nat.zero_add]; exact Nat.min_le_right _ _) ?_
  intro w6 o6 m6
  rw [z64_list, padL_splice] at o6
  have N6 := Lib.hid (nw_of_gb N5.out m6 (fun r hr => by injection hr with hr; subst hr; rw [HX.out]; exact HY.out))
  have O6 := Lib.hid o6
  clear m6 o6
  refine hK _ _ ⟨trivial, ?_⟩
  clear hK K
  refine wpAnyH_done (by kernel_rfl) ?_ _
  have hl : (partL g nn a b c ps).length = 64 := padL_len _
  change Hid (Own w6 x 35 64 _ 1 1 ((partL g nn a b c ps).map bv)) at O6
  have HL := Lib.hid (show ((partL g nn a b c ps).map bv).length = 64 by rw [List.length_map]; exact hl)
  have HB := Lib.hid (bv_one (partL g nn a b c ps))
  obtain ⟨L, hL⟩ : ∃ L, (partL g nn a b c ps).map bv = L := ⟨_, rfl⟩
  rw [hL] at O6 HL HB ⊢
  have HC := Lib.hid (show ∀ j u, L[j]? = some u → w6.cell? ⟨y, 0 + j, none⟩ = some u from by
    intro j u hu; rw [Nat.zero_add]; have := O6.out.row1'.cell j; rw [this]; simpa using hu)
  go_wp2_with (first | (refine wpList_load_agg 35 _ rfl rfl rfl L HC.out _ Tryd.underlying35 rfl (by rw [HL.out]; kernel_rfl) ?_) | (refine wpList_store_own (cs := L) 35 _ _ rfl rfl rfl rfl rfl (by rw [HL.out]; kernel_rfl) HB.out O6.out (by rw [HL.out]; exact Nat.le_refl _) ?_; intro w7 o7 m7))
  rw [splice_all _ _ rfl] at o7
  refine bodyPost_ret (res_cell rfl _ _ _ 35 _ _ rfl o7.row1' Tryd.underlying35 rfl (by rw [List.size_toArray, HL.out]; kernel_rfl)) rfl ?_
  exact ⟨by rw [hL], nw_of_gb N6.out m7 (fun r hr => by injection hr with hr; subst hr; rw [HX.out]; exact HY.out)⟩
end Go.Proofs.YtlfkeohlnhlcoaaDoor

