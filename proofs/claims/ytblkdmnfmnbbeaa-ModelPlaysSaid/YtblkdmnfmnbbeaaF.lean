/- What slices.Contains of sectors and the model's May return. -/
import Derived.Test.YtblkdmnfmnbbeaaE
namespace Go.Proofs.Ytblkdmnfmnbbeaa
open Go.RowKit Go.BW

set_option maxHeartbeats 1000000 in
theorem contains_any {w : World} {B : Nat} {A : Option Addr} {n c : Nat} {bs s : List UInt8} (h : Rd w B 64 A n (bs.map bv)) (hB : B ≤ w.heap.size) (hn : n ≤ 2000) (hs : s.length = 64) :
    Calls Try.prog 28 #[.slice A n c, sv s] w (Ret (.bool (hasB bs s)) w) := by
  have HI := fun (w1 : World) (n1 : Nw w w1) => index_any (c := c) (h.nw n1 hB) (Nat.le_trans hB n1.size) hn hs
  unfold sv at HI ⊢
  have HI' := Lib.hid HI; clear HI
  have HS := Lib.hid hs; clear hs
  have HR := Lib.hid h; clear h
  go_enter Try.func28, Try.ntmps28
  go_wp2_with (first | (refine wpList_load_agg 27 _ rfl rfl rfl (s.map bv) (fun j u hu => by rw [Nat.zero_add, (Obj1.new w 27 (s.map bv).toArray).cell j]; simpa using hu) _ Try.underlying27 rfl (i27.trans (by rw [List.length_map, HS.out])) ?_) | (refine (HI'.out _ (World.grownBy_alloc w _ none)).mono ?_; rintro e w2 ⟨v, rfl, hv, n2⟩; have HV := Lib.hid hv; clear hv; have N2 := Lib.hid n2; clear n2))
  go_ret
  rw [HV.out]
  exact ⟨rfl, gb_trans (World.grownBy_alloc w _ none) N2.out⟩

def mayM (M : List (List UInt8 × Bool)) (n : Int) (s : List UInt8) : Bool :=
  if n < 0 then false else match M[n.toNat]? with
  | some b => if b.2 then hasB b.1 s else decide (lastB b.1 = s)
  | none => false
theorem may_bad {w : World} {g K : Nat} {M : List (List UInt8 × Bool)} {F : List Nat} (h : Rep w g M F K) (n : Int) (hn : Bad M n) (s : List UInt8) (hs : s.length = 64) :
    Calls Try.prog 14 #[pv g, .int .i64 n, sv s] w (Ret (.bool false) w) := by
  obtain ⟨l, c, ho⟩ := h.obj
  clear h
  have HO := Lib.hid ho; clear ho
  have HN := Lib.hid hn; clear hn
  have HS := Lib.hid hs; clear hs
  unfold sv
  have HT := fun (w1 : World) (n1 : Nw w w1) => the_none (HO.out.nw n1) n HN.out
  unfold pv at HT ⊢
  have HT' := Lib.hid HT; clear HT
  go_enter Try.func14, Try.ntmps14
  go_wp2_with fail
  obtain ⟨w1, hw1⟩ : ∃ w1, w1 = w.alloc (.cells (s.map bv).toArray 27) := ⟨_, rfl⟩
  rw [← hw1]
  have n1 : Nw w w1 := by rw [hw1]; exact World.grownBy_alloc w _ none
  clear hw1
  have N1 := Lib.hid n1; clear n1
  refine (HT'.out w1 N1.out).mono ?_
  rintro e w2 ⟨rfl, rfl⟩
  go_wp2
  go_ret
  exact ⟨rfl, N1.out⟩
set_option maxHeartbeats 1000000 in
theorem may_in {w : World} {g Z : Nat} {M : List (List UInt8 × Bool)} {F : List Nat} (h : Rep w g M F Z) (hZ : Z ≤ 1000) (i : Nat) (b : List UInt8 × Bool) (hb : M[i]? = some b) (s : List UInt8) (hs : s.length = 64) :
    Calls Try.prog 14 #[pv g, .int .i64 i, sv s] w (Ret (.bool (if b.2 then hasB b.1 s else decide (lastB b.1 = s))) w) := by
  obtain ⟨l, c, ho⟩ := h.obj
  have hi := (List.getElem?_eq_some_iff.1 hb).1
  obtain ⟨p, r, b', n, cc, A⟩ := h.at ho hi
  have hbb : b' = b := by have := A.elt; rw [hb] at this; injection this with this; exact this.symm
  subst hbb
  have HA := Lib.hid A; clear A
  have HT := fun (w1 : World) (n1 : Nw w w1) => the_some (ho.nw n1) i p hi (n1.cell HA.out.cell (by simp))
  have hsm := HA.out.small
  have HC := fun (w1 : World) (n1 : Nw w w1) => contains_any (c := cc) (s := s) (HA.out.blk.nw n1).row.rd (Nat.le_refl _) (by omega) hs
  have HW := fun (w1 : World) (n1 : Nw w w1) => now_any (HA.out.blk.nw n1) (by omega)
  clear hb h ho hi
  have HS := Lib.hid hs; clear hs
  obtain ⟨R, hR⟩ : ∃ R, (if b'.2 then hasB b'.1 s else decide (lastB b'.1 = s)) = R := ⟨_, rfl⟩
  rw [hR]
  have HR := Lib.hid hR; clear hR
  unfold sv at HC ⊢
  unfold pv at HT HW ⊢
  have HT' := Lib.hid HT; clear HT
  have HC' := Lib.hid HC; clear HC
  have HW' := Lib.hid HW; clear HW
  go_enter Try.func14, Try.ntmps14
  go_wp2_with fail
  obtain ⟨w1, hw1⟩ : ∃ w1, w1 = w.alloc (.cells (s.map bv).toArray 27) := ⟨_, rfl⟩
  rw [← hw1]
  have n1 : Nw w w1 := by rw [hw1]; exact World.grownBy_alloc w _ none
  have ob : Obj1 w1 w.heap.size 27 (s.map bv).toArray := by rw [hw1]; exact Obj1.new w _ _
  clear hw1
  have N1 := Lib.hid n1; clear n1
  have OB := Lib.hid ob; clear ob
  refine (HT'.out w1 N1.out).mono ?_
  rintro e w2 ⟨rfl, rfl⟩
  have hcp : ∀ w', Nw w1 w' → w'.cell? ⟨p, 0, none⟩ = some (.slice (some ⟨r, 0, none⟩) n cc) := fun w' h2 => (HA.out.blk.obj.nw (gb_trans N1.out h2)).cell 0
  have hop : w1.cell? ⟨p, 1, none⟩ = some (.bool b'.2) := (HA.out.blk.obj.nw N1.out).cell 1
  rcases hb2 : b'.2 with _ | _
  · rw [hb2] at hop
    have HB2 := Lib.hid hb2; clear hb2
    go_wp2_with fail
    refine wp_region_held (S := (fun w' => Nw w1 w')) (by kernel_rfl) ?_
    change wpAnyH _ _ _ _ _ _ _ _ (World.drew w1)
    refine held_seg' (l := [0, 2]) (fuel := 3) rfl (by kernel_rfl) (by kernel_rfl) (by simp only [List.filterMap_cons, List.filterMap_nil, List.getElem?_toArray, List.getElem?_cons_succ, List.getElem?_cons_zero]; rfl) (fun _ _ d _ _ h => by cases d <;> exact h) (gb_drew (Nw.refl w1)) ?_
    (refine wpYield_step rfl (fun K hK => ?_)
     apply Exists.intro
     refine ⟨fun w' hw' => ?_, ?_⟩
     · (go_simp; try with_reducible rfl)
     go_simp
     refine hK _ ?_
     clear hK K)
    refine wpYield_load_agg 27 _ rfl rfl rfl (s.map bv) (fun w' hw' j u hu => by rw [Nat.zero_add, (OB.out.nw hw').cell j]; simpa using hu) _ Try.underlying27 rfl (i27.trans (by rw [List.length_map, HS.out])) ?_
    refine wpYield_nil ?_
    refine held_eff 1 rfl (by kernel_rfl) rfl (fun K hK => ?_)
    go_simp
    refine (HW'.out w1.drew (gb_drew N1.out)).mono ?_
    rintro e w2 ⟨rfl, n2⟩
    refine hK _ _ ⟨gb_of_drew n2, ?_⟩
    clear hK K
    refine held_seg' (l := [3, 4]) (fuel := 0) rfl (by kernel_rfl) (by kernel_rfl) (by simp only [List.filterMap_cons, List.filterMap_nil, List.getElem?_toArray, List.getElem?_cons_succ, List.getElem?_cons_zero]; rfl) (fun _ _ d _ _ h => by cases d <;> exact h) (gb_of_drew n2) ?_
    refine wpYield_eq_arr false 27 _ 5 64 _ _ rfl rfl (lastB b'.1) s Try.underlying27 Try.underlying5 (by kernel_rfl) (by kernel_rfl) rfl rfl (lastB_len HA.out.blk) HS.out R (by rw [← HR.out, HB2.out]; simp) ?_
    (refine wpYield_step rfl (fun K hK => ?_)
     apply Exists.intro
     refine ⟨fun w' hw' => ?_, ?_⟩
     · (go_simp; try with_reducible rfl)
     go_simp
     refine hK _ ?_
     clear hK K)
    refine wpYield_nil ?_
    refine wpAnyH_done (by kernel_rfl) ?_ _
    have N2 := Lib.hid n2; clear n2
    go_wp2
    go_ret
    exact ⟨rfl, gb_trans N1.out (gb_of_drew N2.out)⟩
  · rw [hb2] at hop
    have HB2 := Lib.hid hb2; clear hb2
    go_wp2_with fail
    refine wp_region_held (S := (fun w' => Nw w1 w')) (by kernel_rfl) ?_
    change wpAnyH _ _ _ _ _ _ _ _ (World.drew w1)
    refine held_seg' (l := [0, 1, 2, 3, 4]) (fuel := 2) rfl (by kernel_rfl) (by kernel_rfl) (by simp only [List.filterMap_cons, List.filterMap_nil, List.getElem?_toArray, List.getElem?_cons_succ, List.getElem?_cons_zero]; rfl) (fun _ _ d _ _ h => by cases d <;> exact h) (gb_drew (Nw.refl w1)) ?_
    iterate 4 (refine wpYield_step rfl (fun K hK => ?_)
               apply Exists.intro
               refine ⟨fun w' hw' => ?_, ?_⟩
               · (go_simp; try with_reducible rfl)
               go_simp
               refine hK _ ?_
               clear hK K)
    refine wpYield_load_agg 27 _ rfl rfl rfl (s.map bv) (fun w' hw' j u hu => by rw [Nat.zero_add, (OB.out.nw hw').cell j]; simpa using hu) _ Try.underlying27 rfl (i27.trans (by rw [List.length_map, HS.out])) ?_
    refine wpYield_nil ?_
    refine held_eff 5 rfl (by kernel_rfl) rfl (fun K hK => ?_)
    go_simp
    refine (HC'.out w1.drew (gb_drew N1.out)).mono ?_
    rintro e w2 ⟨rfl, n2⟩
    refine hK _ _ ⟨gb_of_drew n2, ?_⟩
    clear hK K
    refine held_seg' (l := [6]) (fuel := 0) rfl (by kernel_rfl) (by kernel_rfl) (by simp only [List.filterMap_cons, List.filterMap_nil, List.getElem?_toArray, List.getElem?_cons_succ, List.getElem?_cons_zero]; rfl) (fun _ _ d _ _ h => by cases d <;> exact h) (gb_of_drew n2) ?_
    (refine wpYield_step rfl (fun K hK => ?_)
     apply Exists.intro
     refine ⟨fun w' hw' => ?_, ?_⟩
     · (go_simp; try with_reducible rfl)
     go_simp
     refine hK _ ?_
     clear hK K)
    refine wpYield_nil ?_
    refine wpAnyH_done (by kernel_rfl) ?_ _
    have N2 := Lib.hid n2; clear n2
    go_wp2
    go_ret
    rw [← HR.out, HB2.out]
    exact ⟨rfl, gb_trans N1.out (gb_of_drew N2.out)⟩
end Go.Proofs.Ytblkdmnfmnbbeaa

