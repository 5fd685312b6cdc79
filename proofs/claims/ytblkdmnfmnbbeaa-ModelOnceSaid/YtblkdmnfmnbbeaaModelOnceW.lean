/- The Go function ModelOnce returns true for every slice of sectors and every int; without conditions. -/
import Derived.Test.YtblkdmnfmnbbeaaK2
import Derived.Test.YtblkdmnfmnbbeaaFr
namespace Go.Proofs.Ytblkdmnfmnbbeaa
open Go.RowKit Go.BW

theorem St.row {w0 w w' : World} {g Z : Nat} {M : List (List UInt8 × Bool)} {F V : List Nat} (h : St w0 w g M F Z V) {x : Nat} (hx : x ∉ F) (h0 : w0.heap.size ≤ x) (k : w.grownBy w' (some x)) : St w0 w' g M F Z V :=
  ⟨h.rep.eqb (fun y hy => k.block y (h.rep.lt y hy) (by intro e; injection e with e; subst e; exact hx hy)), h.new, nw_of_gb h.nw k (by intro y e; injection e with e; subst e; exact h0), fun y hy => ⟨(h.var y hy).1, Nat.lt_of_lt_of_le (h.var y hy).2 k.size⟩⟩
theorem own_N {w : World} {base size n c : Nat} {e : TypeId} {A : Option Addr} {xs : List Value} (_ : Own w base e size A n c xs) : ∃ N, n = N := ⟨n, rfl⟩
theorem take_sec {L : List UInt8} {i N : Nat} (hL : L.length = N * 64) (hi : i < N) : L.take (i * 64) ++ secAt L i = L.take ((i + 1) * 64) := by
  unfold secAt
  rw [Nat.add_mul, Nat.one_mul, List.take_add]
theorem secAt_row {w : World} {base l n c : Nat} {bs : List UInt8} (h : Own w base 27 64 (some ⟨l, 0, none⟩) n c (bs.map bv)) {i : Nat} (hi : i < n) : ∀ j u, ((secAt bs i).map bv)[j]? = some u → w.cell? ⟨l, i * 64 + j, none⟩ = some u := by
  intro j u hu
  have := secAt_cell h.rd hi j u hu
  rwa [Nat.zero_add] at this
def OnceRel (w : World) (g l N c : Nat) (L : List UInt8) (i : Nat) (wr : World) : Prop :=
  ∃ F, St w wr g [(L.take (i * 64), false)] F i [l] ∧ Own wr 0 27 64 (some ⟨l, 0, none⟩) N c (L.map bv)
def OnceRel2 (w : World) (g l x N c : Nat) (L s : List UInt8) (F : List Nat) (wr : World) : Prop :=
  St w wr g [(s, true)] F N [x, l] ∧ Own wr 0 27 64 (some ⟨l, 0, none⟩) N c (L.map bv) ∧ Obj1 wr x 27 (s.map bv).toArray
theorem has_one {s x : List UInt8} (h : s.length = 64) : hasB s x = decide (x = s) := by
  have e : secAt s 0 = s := by unfold secAt; simp only [Nat.zero_mul, List.drop_zero]; exact List.take_of_length_le (by omega)
  unfold hasB
  rw [h]
  simp only [show 64 / 64 = 1 from rfl, List.range_one, List.any_cons, List.any_nil, Bool.or_false, e]
  exact decide_eq_decide.2 ⟨fun h => h.symm, fun h => h.symm⟩
set_option maxRecDepth 100000 in
set_option maxHeartbeats 4000000 in
theorem once_walk {w : World} (A : Option Addr) (n c : Nat) (bs : List UInt8) (hin : InS w A n c bs) (which : Int) (hw1 : -9223372036854775808 ≤ which ∧ which ≤ 9223372036854775807) :
    Calls Try.prog 5 #[.slice A n c, .int .i64 which] w (Ret (.bool true) w) := by
  obtain ⟨hr, hc, hcm⟩ := hin
  obtain ⟨k, hk⟩ : ∃ k : Nat, (¬ (20 : Int) < n ∧ k = n) ∨ ((20 : Int) < n ∧ k = 20) := by
    by_cases h : n ≤ 20
    · exact ⟨n, .inl ⟨by omega, rfl⟩⟩
    · exact ⟨20, .inr ⟨by omega, rfl⟩⟩
  have hkn : k ≤ n := by omega
  have hk2 : k ≤ 20 := by omega
  have hrk := hr.take hkn
  rw [← List.map_take] at hrk
  generalize bs.take (k * 64) = bk at *
  clear hr
  have HRK := Lib.hid hrk; clear hrk
  have hnew := Lib.hid (show ∀ w, Calls Try.prog 10 #[.int .i64 1] w (NewPost 1 w) from fun w => by have := new_any 1 w; rwa [numN1] at this)
  obtain ⟨i0, hi0, hz0, _⟩ := T22.info
  rw [z64_cells] at hz0
  have HZ := Lib.hid hz0; clear hz0
  have HI := Lib.hid hi0; clear hi0
  rcases hk with ⟨hk, rfl⟩ | ⟨hk, rfl⟩
  all_goals
    go_enter Try.func5, Try.ntmps5
    go_wp2_with (first | ((with_reducible refine (shown_any _).mono ?_); rintro e w1 ⟨rfl, n1⟩; have N1 := Lib.hid n1; clear n1) | (refine (hnew.out _).mono ?_; rintro e w2 h1; obtain ⟨g, F, rfl, s1⟩ := St.of_new N1.out h1; have S1 := Lib.hid s1; clear s1 h1; unfold pv) |
      (refine wpList_build0 27 rfl rfl i0 (z64b.map bv).toArray HI.out HZ.out 64 5 Try.underlying27 (by kernel_rfl) ?_) |
      (refine wpList_buildSlice1 T22 _ rfl rfl (v := .agg (z64b.map bv).toArray) rfl rfl (by omega) ?_; obtain ⟨w3, hw3⟩ : ∃ w3, w3 = w2.alloc (.cells (Value.agg (z64b.map bv).toArray).cells 27) := ⟨_, rfl⟩; rw [← hw3]; have n3 : Nw w2 w3 := by rw [hw3]; exact World.grownBy_alloc w2 _ none
       have o3 := own_lit w2 (z64b.map bv) rfl hw3; clear hw3; have O3 := Lib.hid o3; have S3 := Lib.hid (S1.out.more n3).1; have H3 := Lib.hid n3.size; clear o3 n3) |
      (at_builtin; refine wpList_app_own T22 _ _ rfl rfl rfl rfl O3.out (HRK.out.nw S3.out.nw (Nat.le_refl _)) (bv_one _) (by unfold maxLen; omega) H3.out ?_; intro A4 c4 w4 o4 g4 e4; obtain ⟨N, hN⟩ := own_N o4; rw [hN] at o4 ⊢; have o4l := o4.len; have HN := Lib.hid (show 1 ≤ N ∧ N ≤ 21 from by omega); have O4 := Lib.hid o4; have G4 := Lib.hid g4; have E4 := Lib.hid e4; clear o4 g4 e4))
    have hN2 := HN.out
    obtain ⟨l, rfl, hl0⟩ := O4.out.some_ (by omega)
    have hl2 : w2.heap.size ∉ F := fun hm => by have := S1.out.rep.lt _ hm; omega
    have hlF : l ∉ F := fun hm => by have := S1.out.rep.lt _ hm; omega
    have G4' : w3.grownBy w4 (some w2.heap.size) := by simpa [Value.ownBlock] using G4.out
    obtain ⟨L, hL⟩ : ∃ L, z64b ++ bk = L := ⟨_, rfl⟩
    have O5 := O4.out.more (Nat.zero_le _)
    rw [← List.map_append, hL] at O5
    have hLl : L.length = N * 64 := by have := O5.len; simpa using this
    have s4 := (S3.out.row hl2 S1.out.nw.size G4').addVar (x := l) (by obtain ⟨cur, hc⟩ := O5.obj; exact hc.lt) hlF
    have R0 : OnceRel w g l N c4 L 1 w4 := ⟨F, by
      have e : [(L.take (1 * 64), false)] = List.replicate 1 (z64b, false) := by rw [← hL]; rfl
      rw [e]; exact s4, O5⟩
    have RR := Lib.hid R0
    have HLL := Lib.hid hLl
    clear R0 s4 O5 G4 E4 O4 G4' hl2 hlF O3 S3 H3 S1 hLl hL
    go_loopw [7] (fun i wr => ∃ i' : Nat, 1 ≤ i' ∧ i' ≤ N ∧ i = .int .i64 i' ∧ OnceRel w g l N c4 L i' wr) (fun i _ => N - (intOf i).toNat)
    case atStart => exact ⟨1, by omega, by omega, rfl, RR.out⟩
    case round =>
      obtain ⟨i, hi1, hi2, rfl, F5, s5, o5⟩ := hrel
      have S5 := Lib.hid s5; clear s5
      have O5 := Lib.hid o5; clear o5
      by_cases hlt : i < N
      · go_wp2_with (first | (refine wpList_load_agg 27 _ rfl rfl rfl ((secAt L i).map bv) (secAt_row O5.out hlt) _ Try.underlying27 rfl (i27.trans (by rw [List.length_map, secAt_len HLL.out hlt])) ?_) |
          (refine (write_ok S5.out.rep (by omega) 0 (L.take (i * 64), false) rfl (secAt L i) (secAt_len HLL.out hlt)).mono ?_; rintro e w6 h6; obtain ⟨rfl, F6, s6, k6⟩ := S5.out.step h6; have S6 := Lib.hid s6; have O6 := Lib.hid (O5.out.eqb (k6 l (by simp))); clear s6 k6 h6))
        refine ⟨⟨i + 1, by omega, hlt, by go_num, F6, ?_, O6.out⟩, by simp [intOf]; omega⟩
        have s6 := S6.out
        rwa [take_sec HLL.out hlt] at s6
      · have hi : i = N := by omega
        subst hi
        rw [List.take_of_length_le (by rw [HLL.out]; omega)] at S5
        obtain ⟨m, hm⟩ : ∃ m : Nat, bits .and .i64 which 255 = (m : Int) := ⟨(which % 256).toNat, by have := and_mask which 8 (by omega); simp at this; rw [this]; omega⟩
        have hm2 : m ≤ 255 := by have := and_mask which 8 (by omega); simp at this; rw [this] at hm; omega
        obtain ⟨q, hq⟩ : ∃ q : Nat, m % i = q := ⟨_, rfl⟩
        have hq2 : q < i := by rw [← hq]; exact Nat.mod_lt _ (by omega)
        have hq3 : (m : Int) % (i : Int) = (q : Int) := by rw [← hq]; omega
        clear hq
        have LS := Lib.hid (secAt_len HLL.out hq2)
        obtain ⟨s, hs⟩ : ∃ s, secAt L q = s := ⟨_, rfl⟩
        have hsb : hasB L s = true := (hasB_iff L s).2 ⟨q, by rw [HLL.out]; omega, hs⟩
        have hrow := secAt_row O5.out hq2
        rw [hs] at LS hrow
        have HSB := Lib.hid hsb
        have HROW := Lib.hid hrow
        clear hsb hrow hs
        go_wp2_with (first | (refine wpList_load_agg 27 _ rfl rfl rfl (s.map bv) HROW.out _ Try.underlying27 rfl (i27.trans (by rw [List.length_map, LS.out])) ?_) |
          (refine wpList_alloc (size := 64) 27 rfl rfl w.heap.size i0 HI.out HZ.out (by kernel_rfl) S5.out.nw.size ?_; intro x w6 a1 a2 a3; have S6 := Lib.hid (((S5.out.more a2).1).addVar (x := x) (by obtain ⟨cur, hc⟩ := a1.obj; exact hc.lt) (fun hm => by have := S5.out.rep.lt x hm; omega)); have A1 := Lib.hid a1; have A3 := Lib.hid (Nat.le_trans S5.out.nw.size a3); have O6 := Lib.hid (O5.out.nw a2); have XL := Lib.hid (show x ≠ l from by obtain ⟨cur, hc⟩ := O5.out.obj; have := hc.lt; omega); clear a1 a2 a3) |
          (refine wpList_store_own (cs := s.map bv) 27 _ _ rfl rfl rfl rfl rfl (i27.trans (by rw [List.length_map, LS.out])) (bv_one _) A1.out (by rw [List.length_map, LS.out]; decide) ?_; intro w7 c1 c2; have S7 := Lib.hid (S6.out.write (x := x) (by simp) A3.out c2); have o7 := Own.row1 c1; rw [splice_all _ _ (by rw [List.length_map, LS.out, A1.out.len])] at o7; have OX7 := Lib.hid o7; have O7 := Lib.hid (O6.out.eqb (c2.block l (by obtain ⟨cur, hc⟩ := O6.out.obj; exact hc.lt) (by intro e; injection e with e; exact XL.out e.symm))); clear o7 c1 c2))
        have LX := Lib.hid (show x ∈ [x, l] from by simp)
        have LL := Lib.hid (show l ∈ [x, l] from by simp)
        refine (fall_any S7.out.rep (by simp)).mono ?_
        rintro e w8 h8
        obtain ⟨rfl, F8, s8, k8⟩ := S7.out.step h8
        have S8 := Lib.hid s8; have OX8 := Lib.hid (OX7.out.eq (k8 x LX.out)); have O8 := Lib.hid (O7.out.eqb (k8 l LL.out)); clear s8 k8 h8
        go_wp2_with (refine wpList_load_agg 27 _ rfl rfl rfl (s.map bv) (load_of OX8.out) _ Try.underlying27 rfl (i27.trans (by rw [List.length_map, LS.out])) ?_)
        refine (settle_in S8.out.rep (by omega) 0 (L, true) rfl s LS.out).mono ?_
        rintro e w9 h9
        obtain ⟨rfl, F9, s9, k9⟩ := S8.out.step h9
        have e1 : mayOf (L, true) s = true := HSB.out
        have e2 : settleB (L, true) s = (s, false) := by unfold settleB; rw [e1]; rfl
        rw [e2] at s9
        rw [e1]
        have S9 := Lib.hid s9; have OX9 := Lib.hid (OX8.out.eq (k9 x LX.out)); have O9 := Lib.hid (O8.out.eqb (k9 l LL.out)); clear s9 k9 h9 e1 e2
        go_wp2_with (refine wpList_load_agg 27 _ rfl rfl rfl (s.map bv) (load_of OX9.out) _ Try.underlying27 rfl (i27.trans (by rw [List.length_map, LS.out])) ?_)
        refine (settle_in S9.out.rep (by omega) 0 (s, false) rfl s LS.out).mono ?_
        rintro e w10 h10
        obtain ⟨rfl, F10, s10, k10⟩ := S9.out.step h10
        have e1 : mayOf (s, false) s = true := by unfold mayOf lastB; simp [LS.out]
        have e2 : settleB (s, false) s = (s, false) := by unfold settleB; simp
        rw [e2] at s10
        rw [e1]
        have S10 := Lib.hid s10; have OX10 := Lib.hid (OX9.out.eq (k10 x LX.out)); have O10 := Lib.hid (O9.out.eqb (k10 l LL.out)); clear s10 k10 h10 e1 e2
        go_wp2_with fail
        refine (fall_any S10.out.rep (by simp)).mono ?_
        rintro e w11 h11
        obtain ⟨rfl, F11, s11, k11⟩ := S10.out.step h11
        have S11 := Lib.hid s11; have OX11 := Lib.hid (OX10.out.eq (k11 x LX.out)); have O11 := Lib.hid (O10.out.eqb (k11 l LL.out)); clear s11 k11 h11
        go_wp2_with fail
        refine (fall_any S11.out.rep (by simp)).mono ?_
        rintro e w12 h12
        obtain ⟨rfl, F12, s12, k12⟩ := S11.out.step h12
        have S12 := Lib.hid s12; have OX12 := Lib.hid (OX11.out.eq (k12 x LX.out)); have O12 := Lib.hid (O11.out.eqb (k12 l LL.out)); clear s12 k12 h12
        go_wp2_with fail
        go_loopw [9] (fun j wr => ∃ j' : Nat, j' ≤ i ∧ j = .int .i64 j' ∧ OnceRel2 w g l x i c4 L s F12 wr) (fun j _ => i - (intOf j).toNat)
        case atStart => exact ⟨0, by omega, rfl, S12.out, O12.out, OX12.out⟩
        case round =>
          obtain ⟨j, hj, rfl, s13, o13, ox13⟩ := hrel
          have S13 := Lib.hid s13; have O13 := Lib.hid o13; have OX13 := Lib.hid ox13; clear s13 o13 ox13
          by_cases hlt : j < i
          · obtain ⟨r, hr⟩ : ∃ r, decide (secAt L j = s) = r := ⟨_, rfl⟩
            have HR := Lib.hid hr; clear hr
            go_wp2_with fail
            refine wp_region_held (S := (fun w' => Nw wr w')) (by kernel_rfl) ?_
            change wpAnyH _ _ _ _ _ _ _ _ (World.drew wr)
            refine held_seg' (l := [0, 1, 2, 3, 4, 6, 7, 8, 9, 10, 11]) (fuel := 2) rfl (by kernel_rfl) (by kernel_rfl) (by simp only [List.filterMap_cons, List.filterMap_nil, List.getElem?_toArray, List.getElem?_cons_succ, List.getElem?_cons_zero]; rfl) (fun _ _ d _ _ h => by cases d <;> exact h) (gb_drew (Nw.refl wr)) ?_
            iterate 4 (refine wpYield_step rfl (fun K hK => ?_)
                       apply Exists.intro
                       refine ⟨fun w' hw' => ?_, ?_⟩
                       · (go_simp; try with_reducible rfl)
                       go_simp
                       refine hK _ ?_
                       clear hK K)
            refine wpYield_load_agg 27 _ rfl rfl rfl ((secAt L j).map bv) (fun w' hw' => secAt_row (O13.out.nw hw') hlt) _ Try.underlying27 rfl (i27.trans (by rw [List.length_map, secAt_len HLL.out hlt])) ?_
            iterate 3 (refine wpYield_step rfl (fun K hK => ?_)
                       apply Exists.intro
                       refine ⟨fun w' hw' => ?_, ?_⟩
                       · (go_simp; try with_reducible rfl)
                       go_simp
                       refine hK _ ?_
                       clear hK K)
            refine wpYield_load_agg 27 _ rfl rfl rfl ((secAt L j).map bv) (fun w' hw' => secAt_row (O13.out.nw hw') hlt) _ Try.underlying27 rfl (i27.trans (by rw [List.length_map, secAt_len HLL.out hlt])) ?_
            refine wpYield_load_agg 27 _ rfl rfl rfl (s.map bv) (fun w' hw' => load_of (OX13.out.nw hw')) _ Try.underlying27 rfl (i27.trans (by rw [List.length_map, LS.out])) ?_
            refine wpYield_eq_arr false 27 _ 5 64 _ _ rfl rfl (secAt L j) s Try.underlying27 Try.underlying5 (by kernel_rfl) (by kernel_rfl) rfl rfl (secAt_len HLL.out hlt) LS.out r (by rw [HR.out]; simp) ?_
            refine wpYield_nil ?_
            refine held_eff 5 rfl (by kernel_rfl) rfl (fun K hK => ?_)
            go_simp
            refine (may_in (S13.out.rep.nw (gb_drew (Nw.refl wr))) (by omega) 0 (s, true) rfl (secAt L j) (secAt_len HLL.out hlt)).mono ?_
            rintro e w14 ⟨rfl, n14⟩
            refine hK _ _ ⟨gb_of_drew n14, ?_⟩
            clear hK K
            have e1 : (if (s, true).2 = true then hasB (s, true).1 (secAt L j) else decide (lastB (s, true).1 = secAt L j)) = r := by rw [← HR.out]; exact has_one LS.out
            rw [e1]
            refine held_seg' (l := [12]) (fuel := 0) rfl (by kernel_rfl) (by kernel_rfl) (by simp only [List.filterMap_cons, List.filterMap_nil, List.getElem?_toArray, List.getElem?_cons_succ, List.getElem?_cons_zero]; rfl) (fun _ _ d _ _ h => by cases d <;> exact h) (gb_of_drew n14) ?_
            (refine wpYield_step rfl (fun K hK => ?_)
             apply Exists.intro
             refine ⟨fun w' hw' => ?_, ?_⟩
             · (go_simp; try with_reducible rfl)
             go_simp
             refine hK _ ?_
             clear hK K)
            refine wpYield_nil ?_
            refine wpAnyH_done (by kernel_rfl) ?_ _
            clear e1
            have S14 := Lib.hid (S13.out.more (gb_of_drew n14)).1; have OX14 := Lib.hid (OX13.out.nw (gb_of_drew n14)); have O14 := Lib.hid (O13.out.nw (gb_of_drew n14)); clear n14
            go_wp2
            exact ⟨⟨j + 1, hlt, rfl, S14.out, O14.out, OX14.out⟩, by simp [intOf]; omega⟩
          · go_wp2
            go_ret
            exact ⟨rfl, S13.out.nw⟩
end Go.Proofs.Ytblkdmnfmnbbeaa

