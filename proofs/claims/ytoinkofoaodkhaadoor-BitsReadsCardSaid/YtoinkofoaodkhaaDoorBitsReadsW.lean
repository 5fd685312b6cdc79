/- The Go function BitsReads returns true for every int and slice of bytes, where the library's table lies as it was laid; without other conditions. -/
import Derived.Test.YtoinkofoaodkhaaDoorL
import Derived.Test.YtoinkofoaodkhaaDoorFr
namespace Go.Proofs.YtoinkofoaodkhaaDoor
open Go.RowKit Go.BW Go.BW.Bit

theorem i5' : (Tryd.prog.info? 5).map (·.size) = some 1 := by kernel_rfl
section
variable {wb w w' : World} {g base size n c : Nat} {bs : List Bool} {A : Option Addr} {e : TypeId} {xs : List Value}
theorem BS.grow (h : BS wb w g bs) (o : Own w base e size A n c xs) (k : w.grownBy w' (Value.slice A n c).ownBlock) (he : e ≠ 58) (hb : wb.heap.size ≤ base) : BS wb w' g bs := by
  refine ⟨⟨h.rep.1.eq (k.block g h.rep.1.lt (fun e2 => ?_)), h.rep.2⟩, h.ge, nw_of_gb h.nw k (fun x hx => Nat.le_trans hb (o.blk x hx))⟩
  obtain ⟨cur, ho⟩ := o.rowObj g e2.symm
  exact ho.ne h.rep.1 he rfl
theorem RS.grow (h : RS wb w g bs) (o : Own w base e size A n c xs) (k : w.grownBy w' (Value.slice A n c).ownBlock) (he : e ≠ 53) (he2 : e ≠ 4) (hb : wb.heap.size ≤ base) : RS wb w' g bs := by
  obtain ⟨⟨A2, c2, h1, h2⟩, h3, h4, h5⟩ := h
  refine ⟨⟨A2, c2, h1.eq (k.block g h1.lt (fun e2 => ?_)), h2.kept k (fun r hr e2 => ?_)⟩, h3, nw_of_gb h4 k (fun x hx => Nat.le_trans hb (o.blk x hx)), h5⟩
  · obtain ⟨cur, ho⟩ := o.rowObj g e2.symm
    exact ho.ne h1 he rfl
  · obtain ⟨cur, ho⟩ := o.rowObj r hr
    obtain ⟨cur2, ho2⟩ := h2.rowObj r e2
    exact ho.ne ho2 he2 rfl
end
theorem RS.base {wb wb' w : World} {g : Nat} {bs : List Bool} (h : RS wb' w g bs) (k : Nw wb wb') : RS wb w g bs := by
  obtain ⟨⟨A, c, h1, h2⟩, h3, h4, h5⟩ := h
  exact ⟨⟨A, c, h1, h2.more k.size⟩, Nat.le_trans k.size h3, gb_trans k h4, h5⟩
def WrRel (w : World) (A : Option Addr) (n c : Nat) (wr : World) : Prop := Nw w wr ∧ ∃ ys, Own wr w.heap.size 5 1 A n c ys
def WrRel2 (w : World) (ga gb : Nat) (B : List Bool) (A : Option Addr) (n c : Nat) (wr : World) : Prop := BS w wr ga B ∧ RS w wr gb B ∧ ∃ ys, Own wr w.heap.size 5 1 A n c ys
set_option maxRecDepth 100000 in
set_option maxHeartbeats 8000000 in
theorem reads_walk (n0 : Int) (_ : -9223372036854775808 ≤ n0 ∧ n0 ≤ 9223372036854775807) {w : World} (A : Option Addr) (len cap : Nat) (zs : List UInt8) (hin : InB w A len cap zs) (ht : Tab w) :
    Calls Tryd.prog 6 #[.int .i64 n0, .slice A len cap] w (Ret (.bool true) w) := by
  obtain ⟨hr, hc, hcm, hll⟩ := hin
  obtain ⟨k, hk⟩ : ∃ k, min len 300 = k := ⟨_, rfl⟩
  have hkl : k ≤ len := by omega
  have hk3 : k ≤ 300 := by omega
  have hrk := hr.take (size := 1) hkl
  rw [Nat.mul_one, ← List.map_take] at hrk
  obtain ⟨l, hl⟩ : ∃ l, zs.take k = l := ⟨_, rfl⟩
  rw [hl] at hrk
  have HR := Lib.hid hrk; have HT := Lib.hid ht; have HK := Lib.hid hk
  have hkc : k ≤ cap := by omega
  clear hr ht hll hk hrk hl
  unfold maxLen at hcm
  rcases (show (n0 < 0 ∨ 65536 < n0) ∨ (0 ≤ n0 ∧ n0 ≤ 65536) from by omega) with hn | hn
  · have HA1 := Lib.hid (fun w' A' m c => of_arg (w := w') n0 hn A' m c)
    have HA2 := Lib.hid (fun w' A' m c => rof_arg (w := w') n0 hn A' m c)
    clear hn
    go_enter Tryd.func6, Tryd.ntmps6
    go_wp2_with (first |
      (refine wpList_bytes_str 28 9 5 Tryd.underlying28 Tryd.underlying5 Tryd.underlying9 _ rfl rfl rfl (HR.out.nw N4.out (Nat.le_refl _)) ?_) |
      (refine wpList_bytes_str 28 9 5 Tryd.underlying28 Tryd.underlying5 Tryd.underlying9 _ rfl rfl rfl O4.out.rd ?_) |
      ((refine (HA2.out _ _ _ _).mono ?_); rintro e w4 ⟨rfl, n4⟩; have N4 := Lib.hid (gb_trans N3.out n4); have O4 := Lib.hid (O3.out.nw n4); clear n4) |
      ((refine (HA1.out _ _ _ _).mono ?_); rintro e w3 ⟨rfl, n3⟩; have N3 := Lib.hid (gb_trans N2.out n3); have O3 := Lib.hid (O2.out.nw n3); clear n3) |
      (at_builtin; refine wpList_app_lit T28 _ _ rfl rfl w.heap.size rfl rfl (HR.out.nw N1.out (Nat.le_refl _)) N1.out.size (bv_one _) (by unfold maxLen; omega) N1.out.size ?_; intro A2 c2 w2 o2 n2; have O2 := Lib.hid o2; have N2 := Lib.hid (gb_trans N1.out n2); clear o2 n2) |
      (refine wpList_slice_hi 28 5 Tryd.underlying28 i5' _ _ rfl rfl A len cap k rfl rfl hkc ?_) |
      (refine wpList_min _ _ _ rfl rfl len 300 rfl rfl HK.out ?_) |
      ((with_reducible refine (shown_any HT.out).mono ?_); rintro e w1 ⟨rfl, n1⟩; have N1 := Lib.hid n1; clear n1))
    go_loopw [11] (fun i wr => ∃ i' : Nat, i' ≤ k ∧ i = .int .i64 i' ∧ WrRel w A2 k c2 wr) (fun i _ => k - (intOf i).toNat)
    case atStart => exact ⟨0, Nat.zero_le _, rfl, N4.out, _, O4.out⟩
    case round =>
      obtain ⟨i, hi, rfl, n5, ys, o5⟩ := hrel
      have N5 := Lib.hid n5; have O5 := Lib.hid o5; clear n5 o5
      by_cases hlt : i < k
      · obtain ⟨r, rfl, _⟩ := O5.out.some_ (by omega)
        obtain ⟨u, _, hcu, hfu⟩ := O5.out.cellAt hlt
        go_wp2
        obtain ⟨o6, g6⟩ := O5.out.set i (.int .u8 255)
        exact ⟨⟨i + 1, hlt, by go_num, nw_of_gb N5.out g6 O5.out.blk, _, o6⟩, by simp [intOf]; omega⟩
      · go_wp2
        go_ret
        exact ⟨rfl, N5.out⟩
  · obtain ⟨N, rfl⟩ : ∃ N : Nat, n0 = N := ⟨n0.toNat, by omega⟩
    have hN : N ≤ 65536 := by omega
    clear hn
    cases hok : okB N l with
    | false =>
      have HA2 := Lib.hid (fun (w' : World) (n : Nw w w') => rof_any (c := cap) (Nw.refl w') N hN (HR.out.nw n (Nat.le_refl _)) n.size (by omega))
      have HOK := Lib.hid hok
      have HR2 := Lib.hid (fun (w' : World) (e : Ending) (w'' : World) (h : ROf w' N l w' e w'') => show e = .returned (.tuple #[.pointer none, .int .i64 2]) ∧ Nw w' w'' from by unfold ROf at h; rw [hok] at h; exact h)
      clear hok
      go_enter Tryd.func6, Tryd.ntmps6
      go_wp2_with (first |
        (refine wpList_bytes_str 28 9 5 Tryd.underlying28 Tryd.underlying5 Tryd.underlying9 _ rfl rfl rfl (HR.out.nw N4.out (Nat.le_refl _)) ?_) |
        (refine wpList_bytes_str 28 9 5 Tryd.underlying28 Tryd.underlying5 Tryd.underlying9 _ rfl rfl rfl O4.out.rd ?_) |
        ((refine (HA2.out _ N3.out).mono ?_); intro e w4 h4; obtain ⟨rfl, n4⟩ := HR2.out _ _ _ h4; have N4 := Lib.hid (gb_trans N3.out n4); have O4 := Lib.hid (O3.out.nw n4); clear n4 h4) |
        ((refine (of_form N hN O2.out.rd HOK.out).mono ?_); rintro e w3 ⟨rfl, n3⟩; have N3 := Lib.hid (gb_trans N2.out n3); have O3 := Lib.hid (O2.out.nw n3); clear n3) |
        (at_builtin; refine wpList_app_lit T28 _ _ rfl rfl w.heap.size rfl rfl (HR.out.nw N1.out (Nat.le_refl _)) N1.out.size (bv_one _) (by unfold maxLen; omega) N1.out.size ?_; intro A2 c2 w2 o2 n2; have O2 := Lib.hid o2; have N2 := Lib.hid (gb_trans N1.out n2); clear o2 n2) |
        (refine wpList_slice_hi 28 5 Tryd.underlying28 i5' _ _ rfl rfl A len cap k rfl rfl hkc ?_) |
        (refine wpList_min _ _ _ rfl rfl len 300 rfl rfl HK.out ?_) |
        ((with_reducible refine (shown_any HT.out).mono ?_); rintro e w1 ⟨rfl, n1⟩; have N1 := Lib.hid n1; clear n1))
      go_loopw [11] (fun i wr => ∃ i' : Nat, i' ≤ k ∧ i = .int .i64 i' ∧ WrRel w A2 k c2 wr) (fun i _ => k - (intOf i).toNat)
      case atStart => exact ⟨0, Nat.zero_le _, rfl, N4.out, _, O4.out⟩
      case round =>
        obtain ⟨i, hi, rfl, n5, ys, o5⟩ := hrel
        have N5 := Lib.hid n5; have O5 := Lib.hid o5; clear n5 o5
        by_cases hlt : i < k
        · obtain ⟨r, rfl, _⟩ := O5.out.some_ (by omega)
          obtain ⟨u, _, hcu, hfu⟩ := O5.out.cellAt hlt
          go_wp2
          obtain ⟨o6, g6⟩ := O5.out.set i (.int .u8 255)
          exact ⟨⟨i + 1, hlt, by go_num, nw_of_gb N5.out g6 O5.out.blk, _, o6⟩, by simp [intOf]; omega⟩
        · go_wp2
          go_ret
          exact ⟨rfl, N5.out⟩
    | true =>
      have HA2 := Lib.hid (fun (w' : World) (n : Nw w w') => rof_any (c := cap) (Nw.refl w') N hN (HR.out.nw n (Nat.le_refl _)) n.size (by omega))
      have HOK := Lib.hid hok
      have HR2 := Lib.hid (fun (w' : World) (e : Ending) (w'' : World) (h : ROf w' N l w' e w'') => show ∃ g, e = .returned (.tuple #[pv g, .int .i64 0]) ∧ RS w' w'' g (bitsOf N l) ∧ Nw w' w'' from by unfold ROf at h; rw [hok] at h; exact h)
      have HBB := Lib.hid ((okB_iff N l).1 hok)
      have HBL := Lib.hid (bitsOf_len N l)
      clear hok
      obtain ⟨Bs, hBs⟩ : ∃ Bs, bitsOf N l = Bs := ⟨_, rfl⟩
      rw [hBs] at HR2 HBB HBL
      have HBS := Lib.hid hBs; clear hBs
      go_enter Tryd.func6, Tryd.ntmps6
      go_wp2_with (first |
        (refine wpList_bytes_str 28 9 5 Tryd.underlying28 Tryd.underlying5 Tryd.underlying9 _ rfl rfl rfl (HR.out.nw S4.out.nw (Nat.le_refl _)) ?_) |
        (refine wpList_bytes_str 28 9 5 Tryd.underlying28 Tryd.underlying5 Tryd.underlying9 _ rfl rfl rfl O4.out.rd ?_) |
        ((refine (HA2.out _ S3.out.nw).mono ?_); intro e w4 h4; obtain ⟨gb, rfl, r4, n4⟩ := HR2.out _ _ _ h4; have R4 := Lib.hid (r4.base S3.out.nw); have S4 := Lib.hid (S3.out.more n4); have O4 := Lib.hid (O3.out.nw n4); clear n4 h4 r4; unfold pv) |
        ((refine (of_ok N hN O2.out.rd (Nat.le_refl _) HOK.out).mono ?_); rw [HBS.out]; rintro e w3 ⟨ga, rfl, b3, hg3, n3⟩; have S3 := Lib.hid (show BS w w3 ga Bs from ⟨b3, Nat.le_trans N2.out.size hg3, gb_trans N2.out n3⟩); have O3 := Lib.hid (O2.out.nw n3); clear n3 b3 hg3; unfold pv) |
        (at_builtin; refine wpList_app_lit T28 _ _ rfl rfl w.heap.size rfl rfl (HR.out.nw N1.out (Nat.le_refl _)) N1.out.size (bv_one _) (by unfold maxLen; omega) N1.out.size ?_; intro A2 c2 w2 o2 n2; have O2 := Lib.hid o2; have N2 := Lib.hid (gb_trans N1.out n2); clear o2 n2) |
        (refine wpList_slice_hi 28 5 Tryd.underlying28 i5' _ _ rfl rfl A len cap k rfl rfl hkc ?_) |
        (refine wpList_min _ _ _ rfl rfl len 300 rfl rfl HK.out ?_) |
        ((with_reducible refine (shown_any HT.out).mono ?_); rintro e w1 ⟨rfl, n1⟩; have N1 := Lib.hid n1; clear n1))
      go_loopw [11] (fun i wr => ∃ i' : Nat, i' ≤ k ∧ i = .int .i64 i' ∧ WrRel2 w ga gb Bs A2 k c2 wr) (fun i _ => k - (intOf i).toNat)
      case atStart => exact ⟨0, Nat.zero_le _, rfl, S4.out, R4.out, _, O4.out⟩
      case round =>
        obtain ⟨i, hi, rfl, s5, r5, ys, o5⟩ := hrel
        have S5 := Lib.hid s5; have R5 := Lib.hid r5; have O5 := Lib.hid o5; clear s5 r5 o5
        by_cases hlt : i < k
        · obtain ⟨r, rfl, _⟩ := O5.out.some_ (by omega)
          obtain ⟨u, _, hcu, hfu⟩ := O5.out.cellAt hlt
          go_wp2
          obtain ⟨o6, g6⟩ := O5.out.set i (.int .u8 255)
          exact ⟨⟨i + 1, hlt, by go_num, S5.out.grow O5.out (show wr.grownBy _ (Value.slice (some ⟨r, 0, none⟩) k c2).ownBlock from g6) (by decide) (Nat.le_refl _), R5.out.grow O5.out (show wr.grownBy _ (Value.slice (some ⟨r, 0, none⟩) k c2).ownBlock from g6) (by decide) (by decide) (Nat.le_refl _), _, o6⟩, by simp [intOf]; omega⟩
        · have HLEN := Lib.hid (fun (w' : World) (h : BS w w' ga Bs) => len_any h.rep)
          have HCN := Lib.hid (fun (w' : World) (h : BS w w' ga Bs) => count_any h.rep)
          have HRC := Lib.hid (fun (w' : World) (h : RS w w' gb Bs) => rcount_any h)
          have HBY := Lib.hid (fun (w' : World) (h : BS w w' ga Bs) => bytes_any h.rep)
          rw [HBL.out] at HLEN
          rw [HBB.out] at HBY
          obtain ⟨C, hC⟩ : ∃ C, cnt Bs = C := ⟨_, rfl⟩
          rw [hC] at HCN HRC
          clear hC
          unfold pv at HLEN HCN HRC HBY
          go_wp2_with fail
          refine wp_region_held (S := (fun w' => Nw wr w')) (by kernel_rfl) ?_
          change wpAnyH _ _ _ _ _ _ _ _ (World.drew wr)
          refine held_seg' (l := [0, 1, 2, 4]) (fuel := 19) rfl (by kernel_rfl) (by kernel_rfl) (by simp only [List.filterMap_cons, List.filterMap_nil, List.getElem?_toArray, List.getElem?_cons_succ, List.getElem?_cons_zero]; rfl) (fun _ _ d _ _ h => by cases d <;> exact h) (gb_drew (Nw.refl wr)) ?_
          iterate 4 (refine wpYield_step rfl (fun K hK => ?_)
                     apply Exists.intro
                     refine ⟨fun w' hw' => ?_, ?_⟩
                     · (go_simp; try with_reducible rfl)
                     go_simp
                     refine hK _ ?_
                     clear hK K)
          refine wpYield_nil ?_
          refine held_eff 3 rfl (by kernel_rfl) rfl (fun K hK => ?_)
          go_simp
          refine (HLEN.out _ (S5.out.more (gb_drew (Nw.refl wr)))).mono ?_
          rintro e w6 ⟨rfl, rfl⟩
          refine hK _ _ ⟨gb_drew (Nw.refl wr), ?_⟩
          clear hK K
          refine held_seg' (l := [5, 6, 7, 8, 10]) (fuel := 13) rfl (by kernel_rfl) (by kernel_rfl) (by simp only [List.filterMap_cons, List.filterMap_nil, List.getElem?_toArray, List.getElem?_cons_succ, List.getElem?_cons_zero]; rfl) (fun _ _ d _ _ h => by cases d <;> exact h) (gb_drew (Nw.refl wr)) ?_
          iterate 5 (refine wpYield_step rfl (fun K hK => ?_)
                     apply Exists.intro
                     refine ⟨fun w' hw' => ?_, ?_⟩
                     · (go_simp; try with_reducible rfl)
                     go_simp
                     refine hK _ ?_
                     clear hK K)
          refine wpYield_nil ?_
          refine held_eff 9 rfl (by kernel_rfl) rfl (fun K hK => ?_)
          go_simp
          refine (HCN.out _ (S5.out.more (gb_drew (Nw.refl wr)))).mono ?_
          rintro e w6 ⟨rfl, rfl⟩
          refine hK _ _ ⟨gb_drew (Nw.refl wr), ?_⟩
          clear hK K
          refine held_eff 11 rfl (by kernel_rfl) rfl (fun K hK => ?_)
          go_simp
          refine (HRC.out _ (R5.out.more (gb_drew (Nw.refl wr)))).mono ?_
          rintro e w6 ⟨rfl, rfl⟩
          refine hK _ _ ⟨gb_drew (Nw.refl wr), ?_⟩
          clear hK K
          refine held_seg' (l := [12, 13, 14, 15, 18, 19]) (fuel := 5) rfl (by kernel_rfl) (by kernel_rfl) (by simp only [List.filterMap_cons, List.filterMap_nil, List.getElem?_toArray, List.getElem?_cons_succ, List.getElem?_cons_zero]; rfl) (fun _ _ d _ _ h => by cases d <;> exact h) (gb_drew (Nw.refl wr)) ?_
          iterate 5 (refine wpYield_step rfl (fun K hK => ?_)
                     apply Exists.intro
                     refine ⟨fun w' hw' => ?_, ?_⟩
                     · (go_simp; try with_reducible rfl)
                     go_simp
                     refine hK _ ?_
                     clear hK K)
          refine wpYield_bytes_str 28 9 5 Tryd.underlying28 Tryd.underlying5 Tryd.underlying9 _ rfl rfl rfl (fun w' hw' => HR.out.nw (gb_trans S5.out.nw hw') (Nat.le_refl _)) ?_
          refine wpYield_nil ?_
          refine held_eff 16 rfl (by kernel_rfl) rfl (fun K hK => ?_)
          go_simp
          refine (HBY.out _ (S5.out.more (gb_drew (Nw.refl wr)))).mono ?_
          rintro e w8 ⟨A8, n8, c8, rfl, o8, n8'⟩
          have n8'' : Nw wr w8 := gb_of_drew n8'
          have O8 := Lib.hid o8
          refine hK _ _ ⟨n8'', ?_⟩
          clear hK K
          refine wpAnyH_mono (S' := fun w' => Nw w8 w') (fun w' h => gb_trans n8'' h) _ _ _ _ ?_
          refine held_seg' (l := [17, 20, 21, 22]) (fuel := 0) rfl (by kernel_rfl) (by kernel_rfl) (by simp only [List.filterMap_cons, List.filterMap_nil, List.getElem?_toArray, List.getElem?_cons_succ, List.getElem?_cons_zero]; rfl) (fun _ _ d _ _ h => by cases d <;> exact h) (Nw.refl w8) ?_
          refine wpYield_bytes_str 28 9 5 Tryd.underlying28 Tryd.underlying5 Tryd.underlying9 _ rfl rfl rfl (fun w' hw' => O8.out.rd.nw hw' (Nat.le_refl _)) ?_
          iterate 3 (refine wpYield_step rfl (fun K hK => ?_)
                     apply Exists.intro
                     refine ⟨fun w' hw' => ?_, ?_⟩
                     · (go_simp; try with_reducible rfl)
                     go_simp
                     refine hK _ ?_
                     clear hK K)
          refine wpYield_nil ?_
          refine wpAnyH_done (by kernel_rfl) ?_ _
          have N8 := Lib.hid (gb_trans S5.out.nw n8'')
          clear o8 n8' n8''
          go_wp2
          go_ret
          exact ⟨rfl, N8.out⟩
end Go.Proofs.YtoinkofoaodkhaaDoor

