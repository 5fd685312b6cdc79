/- The Go function ModelReads returns true for every slice of sectors and slice of bools; without conditions. -/
import Derived.Test.YtblkdmnfmnbbeaaL
namespace Go.Proofs.Ytblkdmnfmnbbeaa
open Go.RowKit Go.BW

def ReadsRel (w : World) (g x i : Nat) (s : List UInt8) (wr : World) : Prop :=
  ∃ B F, St w wr g [(z64b, false), (B, false)] F (i + 1) [x] ∧ lastB B = s ∧ s.length = 64 ∧ Own wr 0 27 64 (some ⟨x, 0, none⟩) 1 1 (s.map bv) ∧ w.heap.size ≤ x
def lastOf (bs : List UInt8) (i : Nat) : List UInt8 := if i = 0 then z64b else secAt bs (i - 1)
theorem now_last {w : World} {g Z : Nat} {F : List Nat} {B s : List UInt8} (h : Rep w g [(z64b, false), (B, false)] F Z) (hZ : Z ≤ 1000) (hl : lastB B = s) :
    Calls Try.prog 22 #[pv g, .int .i64 1] w (Ret (.tuple #[.agg (s.map bv).toArray, .bool true]) w) := by
  have := now2_in h hZ 1 (B, false) rfl
  rw [← hl]
  exact this
theorem may_last {w : World} {g Z : Nat} {F : List Nat} {B s y : List UInt8} (h : Rep w g [(z64b, false), (B, false)] F Z) (hZ : Z ≤ 1000) (hl : lastB B = s) (hy : y.length = 64) {r : Bool} (hr : decide (s = y) = r) :
    Calls Try.prog 14 #[pv g, .int .i64 1, sv y] w (Ret (.bool r) w) := by
  have := may_in h hZ 1 (B, false) rfl y hy
  rw [← hr, ← hl]
  exact this
theorem flush2 {B s : List UInt8} (hl : lastB B = s) : [(z64b, false), (B, false)].map flushB = [(z64b, false), (s, false)] := by
  rw [← hl]
  simp only [List.map_cons, List.map_nil, flush_closed]
  rw [last_self (s := z64b) rfl]
def ReadsRel2 (w : World) (g x : Nat) (s : List UInt8) (wr : World) : Prop :=
  ∃ B F, St w wr g [(z64b, false), (B, false)] F 50 [x] ∧ lastB B = s ∧ Own wr 0 27 64 (some ⟨x, 0, none⟩) 1 1 (s.map bv)
set_option maxRecDepth 100000 in
set_option maxHeartbeats 4000000 in
theorem reads_walk {w : World} (A : Option Addr) (n c : Nat) (bs : List UInt8) (hin : InS w A n c bs) (A' : Option Addr) (m c' : Nat) (fs : List Bool) (hin' : InL w (fun b : Bool => [Value.bool b]) 1 (fun _ => True) A' m c' fs) :
    Calls Try.prog 8 #[.slice A n c, .slice A' m c'] w (Ret (.bool true) w) := by
  obtain ⟨hr', hc', hcm', hbl', _⟩ := hin'
  rw [flat1] at hr'
  obtain ⟨hr, hc, hcm⟩ := hin
  have HL := Lib.hid (show bs.length = n * 64 by have := hr.1; simpa using this)
  have HR := Lib.hid hr; clear hr
  have HR' := Lib.hid hr'; clear hr'
  obtain ⟨i0, hi0, hz0, _⟩ := T22.info
  rw [z64_cells] at hz0
  have HZ := Lib.hid hz0; clear hz0
  have HI := Lib.hid hi0; clear hi0
  have hnew := Lib.hid (show ∀ w, Calls Try.prog 10 #[.int .i64 2] w (NewPost 2 w) from fun w => by have := new_any 2 w; rwa [show numN 2 = 2 from by decide] at this)
  go_enter Try.func8, Try.ntmps8
  go_wp2_with (first | ((with_reducible refine (shown_any _).mono ?_); rintro e w1 ⟨rfl, n1⟩; have N1 := Lib.hid n1; clear n1) | (refine (hnew.out _).mono ?_; rintro e w2 h1; obtain ⟨g, F, rfl, s1⟩ := St.of_new N1.out h1; have S1 := Lib.hid s1; clear s1 h1; unfold pv) |
    (refine wpList_build0 27 rfl rfl i0 (z64b.map bv).toArray HI.out HZ.out 64 5 Try.underlying27 (by kernel_rfl) ?_) |
    (refine wpList_alloc (size := 64) 27 rfl rfl w.heap.size i0 HI.out HZ.out (by kernel_rfl) S1.out.nw.size ?_; intro x w6 a1 a2 a3; have S6 := Lib.hid (((S1.out.more a2).1).addVar (x := x) (by obtain ⟨cur, hc⟩ := a1.obj; exact hc.lt) (fun hm => by have := S1.out.rep.lt x hm; omega)); have A1 := Lib.hid a1; have A3 := Lib.hid (Nat.le_trans S1.out.nw.size a3); clear a1 a2 a3) |
    (refine wpList_store_own (cs := z64b.map bv) 27 _ _ rfl rfl rfl rfl rfl (by kernel_rfl) (bv_one _) A1.out (by decide) ?_; intro w7 c1 c2; have S7 := Lib.hid (S6.out.write (x := x) (by simp) A3.out c2); rw [splice_all _ _ (by kernel_rfl)] at c1; have O7 := Lib.hid (c1.more (Nat.zero_le _)); clear c1 c2))
  have LX := Lib.hid (show x ∈ [x] from by simp)
  go_loopw [8] (fun i wr => ∃ i' : Nat, i = .int .i64 i' ∧ i' ≤ 40 ∧ i' ≤ n ∧ ReadsRel w g x i' (lastOf bs i') wr) (fun i _ => 40 - (intOf i).toNat)
  case atStart => exact ⟨0, rfl, by omega, by omega, z64b, F, S7.out, rfl, rfl, O7.out, A3.out⟩
  case round =>
    obtain ⟨i, rfl, hi1, hi2, B, F8, s8, hl, hl2, o8, _⟩ := hrel
    have S8 := Lib.hid s8; have HLB := Lib.hid hl; have O8 := Lib.hid o8; clear s8 hl hl2 o8
    by_cases hlt : i < n ∧ i < 40
    · obtain ⟨hlt1, hlt2⟩ := hlt
      obtain ⟨s, hs⟩ : ∃ s, secAt bs i = s := ⟨_, rfl⟩
      have hls : s.length = 64 := by rw [← hs]; exact secAt_len HL.out hlt1
      have LS := Lib.hid hls; clear hls
      have hlo : lastOf bs (i + 1) = s := hs
      have HLO := Lib.hid hlo; clear hlo
      obtain ⟨b, off, rfl, hb, _⟩ := HR.out.2 (by omega)
      have HC := Lib.hid (show ∀ w', Nw w w' → ∀ j u, (s.map bv)[j]? = some u → w'.cell? ⟨b, off + i * 64 + j, none⟩ = some u from fun w' k => by rw [← hs]; exact secAt_cell (HR.out.nw k (Nat.le_refl _)) hlt1)
      clear hs
      obtain ⟨fl, hfl⟩ : ∃ fl : Option Bool, fl = if h : i < m then some (fs[i]'(by omega)) else none := ⟨_, rfl⟩
      have HF := Lib.hid (show ∀ x, fl = some x → i < m ∧ ∃ b' off', A' = some ⟨b', off', none⟩ ∧ ∀ w', Nw w w' → w'.cell? ⟨b', off' + i, none⟩ = some (.bool x) from by
        intro x hx
        by_cases h : i < m
        · refine ⟨h, ?_⟩
          obtain ⟨b', off', e, hz, _⟩ := HR'.out.atF h
          refine ⟨b', off', e, fun w' k => ?_⟩
          obtain ⟨b2, off2, e2, hz2, hc2⟩ := (HR'.out.nw k (Nat.le_refl _)).atF h
          rw [e] at e2; injection e2 with e2; injection e2 with e3 e4; subst e3; subst e4
          rw [dif_pos h] at hfl
          rw [hc2]; rw [hfl] at hx; injection hx with hx; rw [hx]
        · rw [dif_neg h] at hfl; rw [hfl] at hx; cases hx)
      have HFN := Lib.hid (show fl = none → m ≤ i from by
        intro hx
        by_cases h : i < m
        · rw [dif_pos h] at hfl; rw [hfl] at hx; cases hx
        · omega)
      clear hfl
      have HCF : ∃ x b' off', (fl = none ∧ m ≤ i ∧ x = false) ∨ (fl = some x ∧ i < m ∧ A' = some ⟨b', off', none⟩ ∧ ∀ w', Nw w w' → w'.cell? ⟨b', off' + i, none⟩ = some (.bool x)) := by
        rcases fl with _ | x
        · exact ⟨false, 0, 0, .inl ⟨rfl, HFN.out rfl, rfl⟩⟩
        · obtain ⟨h1, b', off', h2, h3⟩ := HF.out x rfl
          exact ⟨x, b', off', .inr ⟨rfl, h1, h2, h3⟩⟩
      clear HF HFN
      obtain ⟨fx, b', off', hcf⟩ := HCF
      rcases hcf with ⟨rfl, hm, rfl⟩ | ⟨rfl, hm, rfl, hcf⟩
      rotate_left
      rcases fx with _ | _
      all_goals
        try have HCF := Lib.hid hcf
        try clear hcf
        go_wp2_with (first |
          (refine wpList_load_agg 27 _ rfl rfl rfl (s.map bv) (load_own OY14.out) _ Try.underlying27 rfl (i27.trans (by rw [List.length_map, LS.out])) ?_) |
          (refine wpList_load_agg 27 _ rfl rfl rfl (s.map bv) (load_own O14.out) _ Try.underlying27 rfl (i27.trans (by rw [List.length_map, LS.out])) ?_) |
          (refine wpList_eq_arr true 27 _ 5 64 _ _ rfl rfl s s Try.underlying27 Try.underlying5 (by kernel_rfl) (by kernel_rfl) rfl rfl LS.out LS.out false (by simp) ?_) |
          (refine (may_last S14.out.rep (by omega) HB3.out LS.out (r := true) (by simp)).mono ?_; rintro e w15 ⟨rfl, n15⟩; have S15 := Lib.hid (S14.out.more n15).1; have O15 := Lib.hid (O14.out.nw n15); clear n15) |
          (refine wpList_store_own (cs := s.map bv) 27 _ _ rfl rfl rfl rfl rfl (i27.trans (by rw [List.length_map, LS.out])) (bv_one _) OY13.out (by rw [List.length_map, LS.out]; decide) ?_; intro w14 c1 c2; have S14 := Lib.hid (S13.out.row Y13.out A13.out c2); rw [splice_all _ _ (by rw [List.length_map, LS.out, OY13.out.len])] at c1; have OY14 := Lib.hid (c1.more (Nat.zero_le _)); have O14 := Lib.hid (O13.out.eqb (c2.block x XL13.out (by intro e; injection e with e; exact XY13.out e))); clear c1 c2) |
          (refine wpList_alloc (size := 64) 27 rfl rfl w.heap.size i0 HI.out HZ.out (by kernel_rfl) S12.out.nw.size ?_; intro y w13 a1 a2 a3; have S13 := Lib.hid (S12.out.more a2).1; have Y13 := Lib.hid (show y ∉ _ from (fun hm => by have := S12.out.rep.lt y hm; omega)); have OY13 := Lib.hid a1; have A13 := Lib.hid (Nat.le_trans S12.out.nw.size a3); have O13 := Lib.hid (O12.out.nw a2); have XL13 := Lib.hid (show x < w13.heap.size from by obtain ⟨cur, hc⟩ := O13.out.obj; exact hc.lt); have XY13 := Lib.hid (show x ≠ y from by obtain ⟨cur, hc⟩ := O12.out.obj; have := hc.lt; omega); clear a1 a2 a3) |
          (refine (now_last S11.out.rep (by omega) (last_self LS.out)).mono ?_; rintro e w12 ⟨rfl, n12⟩; have S12 := Lib.hid (S11.out.more n12).1; have HB3 := Lib.hid (last_self LS.out); have O12 := Lib.hid (O11.out.nw n12); clear n12) |
          (refine (now_last S10.out.rep (by omega) HB2.out).mono ?_; rintro e w12 ⟨rfl, n12⟩; have S12 := Lib.hid (S10.out.more n12).1; have HB3 := HB2; have O12 := Lib.hid (O10.out.nw n12); clear n12) |
          (refine (flush_any S10.out.rep (by simp) (by omega)).mono ?_; rintro e w11 h11; obtain ⟨rfl, F11, s11, k11⟩ := S10.out.step h11; rw [flush2 HB2.out] at s11; have S11 := Lib.hid s11; have O11 := Lib.hid (O10.out.eqb (k11 x LX.out)); clear s11 k11 h11) |
          (refine wpList_store_own (cs := s.map bv) 27 _ _ rfl rfl rfl rfl rfl (i27.trans (by rw [List.length_map, LS.out])) (bv_one _) O9.out (by rw [List.length_map, LS.out]; decide) ?_; intro w10 c1 c2; have S10 := Lib.hid (S9.out.write (x := x) (by simp) A3.out c2); rw [splice_all _ _ (by rw [List.length_map, LS.out, O9.out.len])] at c1; have O10 := Lib.hid c1; clear c1 c2; try have hcf10 := HCF.out _ S10.out.nw) |
          (refine wpList_load_agg 27 _ rfl rfl rfl (s.map bv) (HC.out _ S9.out.nw) _ Try.underlying27 rfl (i27.trans (by rw [List.length_map, LS.out])) ?_) |
          (refine wpList_load_agg 27 _ rfl rfl rfl (s.map bv) (HC.out _ S8.out.nw) _ Try.underlying27 rfl (i27.trans (by rw [List.length_map, LS.out])) ?_) |
          (refine (write_ok S8.out.rep (by omega) 1 (B, false) rfl s LS.out).mono ?_; rintro e w9 h9; obtain ⟨rfl, F9, s9, k9⟩ := S8.out.step h9; have s9' : St w w9 g [(z64b, false), (B ++ s, false)] F9 (i + 2) [x] := s9; have S9 := Lib.hid s9'; have HB2 := Lib.hid (last_app (B := B) LS.out); have O9 := Lib.hid (O8.out.eqb (k9 x LX.out)); clear s9 s9' k9 h9))
        exact ⟨⟨i + 1, by go_num, by omega, by omega, _, _, S15.out, by rw [HLO.out]; exact HB3.out, by rw [HLO.out]; exact LS.out, by rw [HLO.out]; exact O15.out, A3.out⟩, by simp [intOf]; omega⟩
    · have hcases : (¬ i < n) ∨ (i < n ∧ i = 40) := by omega
      clear hlt
      obtain ⟨s, hs⟩ : ∃ s, lastOf bs i = s := ⟨_, rfl⟩
      rw [hs] at HLB O8
      have hls : s.length = 64 := by
        have := O8.out.len
        simpa using this
      have LS := Lib.hid hls; clear hls
      clear hs
      rcases hcases with hlt1 | ⟨hlt1, rfl⟩
      all_goals
        go_wp2_with fail
        go_loopw [11] (fun j wr => ∃ j' : Nat, j = .int .i64 j' ∧ j' ≤ 40 ∧ j' ≤ n ∧ ReadsRel2 w g x s wr) (fun j _ => 40 - (intOf j).toNat)
        case atStart => exact ⟨0, rfl, by omega, by omega, B, F8, ⟨S8.out.rep.more (by omega), S8.out.new, S8.out.nw, S8.out.var⟩, HLB.out, O8.out⟩
        case round =>
          obtain ⟨j, rfl, hj1, hj2, B5, F5, s5, l5, o5⟩ := hrel
          have S5 := Lib.hid s5; have L5 := Lib.hid l5; have O5 := Lib.hid o5; clear s5 l5 o5
          by_cases hlj : j < n ∧ j < 40
          · obtain ⟨hj3, hj4⟩ := hlj
            obtain ⟨y, hy⟩ : ∃ y, secAt bs j = y := ⟨_, rfl⟩
            have hly : y.length = 64 := by rw [← hy]; exact secAt_len HL.out hj3
            have LY := Lib.hid hly; clear hly
            obtain ⟨b, off, rfl, hb, _⟩ := HR.out.2 (by omega)
            have HC := Lib.hid (show ∀ w', Nw w w' → ∀ jj u, (y.map bv)[jj]? = some u → w'.cell? ⟨b, off + j * 64 + jj, none⟩ = some u from fun w' k => by rw [← hy]; exact secAt_cell (HR.out.nw k (Nat.le_refl _)) hj3)
            clear hy
            obtain ⟨r, hr⟩ : ∃ r, decide (s = y) = r := ⟨_, rfl⟩
            have hr2 : decide (y = s) = r := by rw [← hr]; exact decide_eq_decide.2 ⟨fun h => h.symm, fun h => h.symm⟩
            have HR2 := Lib.hid hr2; have HR1 := Lib.hid hr; clear hr hr2
            go_wp2_with fail
            refine wp_region_held (S := (fun w' => Nw wr w')) (by kernel_rfl) ?_
            change wpAnyH _ _ _ _ _ _ _ _ (World.drew wr)
            refine held_seg' (l := [0, 1, 2, 3, 4, 6, 7, 8, 9, 10, 11]) (fuel := 2) rfl (by kernel_rfl) (by kernel_rfl) (by simp only [List.filterMap_cons, List.filterMap_nil, List.getElem?_toArray, List.getElem?_cons_succ, List.getElem?_cons_zero]; rfl) (fun _ _ d _ _ h => by cases d <;> exact h) (gb_drew (Nw.refl wr)) ?_
            iterate 4 (refine wpYield_step rfl (fun K hK => ?_)
                       apply Exists.intro
                       refine ⟨fun w' hw' => ?_, ?_⟩
                       · (go_simp; try with_reducible rfl)
                       go_simp
                       refine hK _ ?_
                       clear hK K)
            refine wpYield_load_agg 27 _ rfl rfl rfl (y.map bv) (fun w' hw' => HC.out w' (gb_trans S5.out.nw hw')) _ Try.underlying27 rfl (i27.trans (by rw [List.length_map, LY.out])) ?_
            iterate 3 (refine wpYield_step rfl (fun K hK => ?_)
                       apply Exists.intro
                       refine ⟨fun w' hw' => ?_, ?_⟩
                       · (go_simp; try with_reducible rfl)
                       go_simp
                       refine hK _ ?_
                       clear hK K)
            refine wpYield_load_agg 27 _ rfl rfl rfl (y.map bv) (fun w' hw' => HC.out w' (gb_trans S5.out.nw hw')) _ Try.underlying27 rfl (i27.trans (by rw [List.length_map, LY.out])) ?_
            refine wpYield_load_agg 27 _ rfl rfl rfl (s.map bv) (fun w' hw' => load_own (O5.out.nw hw')) _ Try.underlying27 rfl (i27.trans (by rw [List.length_map, LS.out])) ?_
            refine wpYield_eq_arr false 27 _ 5 64 _ _ rfl rfl y s Try.underlying27 Try.underlying5 (by kernel_rfl) (by kernel_rfl) rfl rfl LY.out LS.out r (by rw [HR2.out]; simp) ?_
            refine wpYield_nil ?_
            refine held_eff 5 rfl (by kernel_rfl) rfl (fun K hK => ?_)
            go_simp
            refine (may_last (S5.out.rep.nw (gb_drew (Nw.refl wr))) (by omega) L5.out LY.out HR1.out).mono ?_
            rintro e w14 ⟨rfl, n14⟩
            refine hK _ _ ⟨gb_of_drew n14, ?_⟩
            clear hK K
            refine held_seg' (l := [12]) (fuel := 0) rfl (by kernel_rfl) (by kernel_rfl) (by simp only [List.filterMap_cons, List.filterMap_nil, List.getElem?_toArray, List.getElem?_cons_succ, List.getElem?_cons_zero]; rfl) (fun _ _ d _ _ h => by cases d <;> exact h) (gb_of_drew n14) ?_
            (refine wpYield_step rfl (fun K hK => ?_)
             apply Exists.intro
             refine ⟨fun w' hw' => ?_, ?_⟩
             · (go_simp; try with_reducible rfl)
             go_simp
             refine hK _ ?_
             clear hK K)
            refine wpYield_nil ?_
            refine wpAnyH_done (by kernel_rfl) ?_ _
            have S14 := Lib.hid (S5.out.more (gb_of_drew n14)).1; have O14 := Lib.hid (O5.out.nw (gb_of_drew n14)); clear n14
            go_wp2
            exact ⟨⟨j + 1, by go_num, by omega, by omega, B5, F5, S14.out, L5.out, O14.out⟩, by simp [intOf]; omega⟩
          · have hcases : (¬ j < n) ∨ (j < n ∧ j = 40) := by omega
            clear hlj
            rcases hcases with hlt1 | ⟨hlt1, rfl⟩
            all_goals
              go_wp2
              try (go_ret; exact ⟨rfl, S5.out.nw⟩)
end Go.Proofs.Ytblkdmnfmnbbeaa

