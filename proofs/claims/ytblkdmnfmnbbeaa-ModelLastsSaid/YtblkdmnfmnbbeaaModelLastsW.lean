/- The Go function ModelLasts returns true for every slice of sectors and two ints; without conditions. -/
import Derived.Test.YtblkdmnfmnbbeaaL
namespace Go.Proofs.Ytblkdmnfmnbbeaa
open Go.RowKit Go.BW

theorem mod_nat (m N : Nat) (h : 1 ≤ N) : ∃ q : Nat, q < N ∧ (m : Int) % (N : Int) = (q : Int) := ⟨m % N, Nat.mod_lt _ (by omega), by omega⟩
theorem and_nat (x : Int) : ∃ m : Nat, m ≤ 255 ∧ bits .and .i64 x 255 = (m : Int) := by
  have h := and_mask x 8 (by omega)
  simp at h
  exact ⟨(x % 256).toNat, by omega, by rw [h]; omega⟩
def BL (L : List UInt8) (k i : Nat) : List UInt8 := if i ≤ k then L.take (i * 64) else (L.drop (k * 64)).take ((i - k) * 64)
theorem secAt_drop (L : List UInt8) (k j : Nat) : secAt (L.drop (k * 64)) j = secAt L (k + j) := by
  unfold secAt
  rw [List.drop_drop, Nat.add_mul]
theorem BL_flush {L : List UInt8} {N k : Nat} (hL : L.length = N * 64) (hk : k < N) : lastB (BL L k k ++ secAt L k) = BL L k (k + 1) := by
  rw [last_app (secAt_len hL hk)]
  unfold BL
  rw [if_neg (by omega), Nat.add_sub_cancel_left, Nat.one_mul]
  rfl
theorem BL_step {L : List UInt8} {k i : Nat} (h : i ≠ k) : BL L k i ++ secAt L i = BL L k (i + 1) := by
  unfold BL
  by_cases h1 : i ≤ k
  · rw [if_pos h1, if_pos (by omega), take_sec]
  · rw [if_neg h1, if_neg (by omega)]
    have e : secAt L i = secAt (L.drop (k * 64)) (i - k) := by rw [secAt_drop]; congr 1; omega
    rw [e, take_sec]
    congr 2
    omega
theorem BL_all {L : List UInt8} {N k : Nat} (hL : L.length = N * 64) (hk : k < N) : BL L k N = L.drop (k * 64) := by
  unfold BL
  rw [if_neg (by omega), List.take_of_length_le (by rw [List.length_drop, hL, Nat.sub_mul]; exact Nat.le_refl _)]
def laterB (L : List UInt8) (k j : Nat) (s : List UInt8) : Bool := (List.range (j - k)).any fun t => decide (secAt L (k + t) = s)
theorem later_all {L s : List UInt8} {N k : Nat} (hL : L.length = N * 64) : hasB (L.drop (k * 64)) s = laterB L k N s := by
  unfold hasB laterB
  have e : (L.drop (k * 64)).length / 64 = N - k := by rw [List.length_drop, hL, ← Nat.sub_mul]; omega
  rw [e]
  congr 1
  funext t
  rw [secAt_drop]
theorem later_step {L s : List UInt8} {k j : Nat} (h : k ≤ j) : laterB L k (j + 1) s = (laterB L k j s || decide (secAt L j = s)) := by
  unfold laterB
  rw [show j + 1 - k = (j - k) + 1 by omega, List.range_succ, List.any_append]
  simp only [List.any_cons, List.any_nil, Bool.or_false]
  rw [show k + (j - k) = j by omega]
def LastsRel (w : World) (g l N c k : Nat) (L : List UInt8) (i : Nat) (wr : World) : Prop :=
  ∃ F, St w wr g [(BL L k i, false)] F i [l] ∧ Own wr 0 27 64 (some ⟨l, 0, none⟩) N c (L.map bv)
def LastsRel2 (w : World) (g l N c : Nat) (L : List UInt8) (M : List (List UInt8 × Bool)) (F : List Nat) (wr : World) : Prop :=
  St w wr g M F N [l] ∧ Own wr 0 27 64 (some ⟨l, 0, none⟩) N c (L.map bv)
def LastsRel3 (w : World) (g l x N c : Nat) (L s : List UInt8) (M : List (List UInt8 × Bool)) (F : List Nat) (wr : World) : Prop :=
  St w wr g M F N [x, l] ∧ Own wr 0 27 64 (some ⟨l, 0, none⟩) N c (L.map bv) ∧ Obj1 wr x 27 (s.map bv).toArray
set_option maxRecDepth 100000 in
set_option maxHeartbeats 4000000 in
theorem lasts_walk {w : World} (A : Option Addr) (n c : Nat) (bs : List UInt8) (hin : InS w A n c bs) (at' : Int) (_ : -9223372036854775808 ≤ at' ∧ at' ≤ 9223372036854775807) (which : Int) (_ : -9223372036854775808 ≤ which ∧ which ≤ 9223372036854775807) :
    Calls Try.prog 3 #[.slice A n c, .int .i64 at', .int .i64 which] w (Ret (.bool true) w) := by
  obtain ⟨hr, hc, hcm⟩ := hin
  obtain ⟨k, hk⟩ : ∃ k : Nat, (¬ (40 : Int) < n ∧ k = n) ∨ ((40 : Int) < n ∧ k = 40) := by
    by_cases h : n ≤ 40
    · exact ⟨n, .inl ⟨by omega, rfl⟩⟩
    · exact ⟨40, .inr ⟨by omega, rfl⟩⟩
  have hkn : k ≤ n := by omega
  have hk2 : k ≤ 40 := by omega
  have hrk := hr.take hkn
  rw [← List.map_take] at hrk
  generalize bs.take (k * 64) = bk at *
  clear hr
  have HRK := Lib.hid hrk; clear hrk
  have hnew := Lib.hid (show ∀ w, Calls Try.prog 10 #[.int .i64 1] w (NewPost 1 w) from fun w => by have := new_any 1 w; rwa [numN1] at this)
  obtain ⟨i0, hi0, hz0, _⟩ := T22.info
  rw [z64_cells] at hz0
  have HZ := Lib.hid hz0; clear hz0
  have HI := Lib.hid hi0; clear hi0
  obtain ⟨m, hm2, hm⟩ := and_nat at'
  obtain ⟨m', hm2', hm'⟩ := and_nat which
  rcases hk with ⟨hk, rfl⟩ | ⟨hk, rfl⟩
  all_goals
    go_enter Try.func3, Try.ntmps3
    go_wp2_with (first | ((with_reducible refine (shown_any _).mono ?_); rintro e w1 ⟨rfl, n1⟩; have N1 := Lib.hid n1; clear n1) | (refine (hnew.out _).mono ?_; rintro e w2 h1; obtain ⟨g, F, rfl, s1⟩ := St.of_new N1.out h1; have S1 := Lib.hid s1; clear s1 h1; unfold pv) |
      (refine wpList_build0 27 rfl rfl i0 (z64b.map bv).toArray HI.out HZ.out 64 5 Try.underlying27 (by kernel_rfl) ?_) |
      (refine wpList_buildSlice1 T22 _ rfl rfl (v := .agg (z64b.map bv).toArray) rfl rfl (by omega) ?_; obtain ⟨w3, hw3⟩ : ∃ w3, w3 = w2.alloc (.cells (Value.agg (z64b.map bv).toArray).cells 27) := ⟨_, rfl⟩; rw [← hw3]; have n3 : Nw w2 w3 := by rw [hw3]; exact World.grownBy_alloc w2 _ none
       have o3 := own_lit w2 (z64b.map bv) rfl hw3; clear hw3; have O3 := Lib.hid o3; have S3 := Lib.hid (S1.out.more n3).1; have H3 := Lib.hid n3.size; clear o3 n3) |
      (at_builtin; refine wpList_app_own T22 _ _ rfl rfl rfl rfl O3.out (HRK.out.nw S3.out.nw (Nat.le_refl _)) (bv_one _) (by unfold maxLen; omega) H3.out ?_; intro A4 c4 w4 o4 g4 e4; obtain ⟨N, hN⟩ := own_N o4; rw [hN] at o4 ⊢; have o4l := o4.len; have hN2 : 1 ≤ N ∧ N ≤ 41 := by omega
       obtain ⟨q, hq2, hq3⟩ := mod_nat m N hN2.1; have O4 := Lib.hid o4; have G4 := Lib.hid g4; have E4 := Lib.hid e4; clear o4 g4 e4))
    obtain ⟨l, rfl, hl0⟩ := O4.out.some_ (by omega)
    have hl2 : w2.heap.size ∉ F := fun hm => by have := S1.out.rep.lt _ hm; omega
    have hlF : l ∉ F := fun hm => by have := S1.out.rep.lt _ hm; omega
    have G4' : w3.grownBy w4 (some w2.heap.size) := by simpa [Value.ownBlock] using G4.out
    obtain ⟨L, hL⟩ : ∃ L, z64b ++ bk = L := ⟨_, rfl⟩
    have O5 := O4.out.more (Nat.zero_le _)
    rw [← List.map_append, hL] at O5
    have hLl : L.length = N * 64 := by have := O5.len; simpa using this
    have s4 := (S3.out.row hl2 S1.out.nw.size G4').addVar (x := l) (by obtain ⟨cur, hc⟩ := O5.obj; exact hc.lt) hlF
    have R0 : LastsRel w g l N c4 q L 1 w4 := ⟨F, by
      have e : [(BL L q 1, false)] = List.replicate 1 (z64b, false) := by
        rw [← hL]
        unfold BL
        split
        · rfl
        · have : q = 0 := by omega
          subst this
          rfl
      rw [e]; exact s4, O5⟩
    have RR := Lib.hid R0
    have HLL := Lib.hid hLl
    clear R0 s4 O5 G4 E4 O4 G4' hl2 hlF O3 S3 H3 S1 hLl hL
    simp only [hq3]
    clear hq3
    go_loopw [10] (fun i wr => ∃ i' : Nat, 1 ≤ i' ∧ i' ≤ N ∧ i = .int .i64 i' ∧ LastsRel w g l N c4 q L i' wr) (fun i _ => N - (intOf i).toNat)
    case atStart => exact ⟨1, by omega, by omega, rfl, RR.out⟩
    case round =>
      obtain ⟨i, hi1, hi2, rfl, F5, s5, o5⟩ := hrel
      have S5 := Lib.hid s5; clear s5
      have O5 := Lib.hid o5; clear o5
      by_cases hlt : i < N
      · by_cases hiq : i = q
        · subst hiq
          go_wp2_with (first | (refine wpList_load_agg 27 _ rfl rfl rfl ((secAt L i).map bv) (secAt_row O5.out hlt) _ Try.underlying27 rfl (i27.trans (by rw [List.length_map, secAt_len HLL.out hlt])) ?_) |
            (refine (write_ok S5.out.rep (by omega) 0 (BL L i i, false) rfl (secAt L i) (secAt_len HLL.out hlt)).mono ?_; rintro e w6 h6; obtain ⟨rfl, F6, s6, k6⟩ := S5.out.step h6; have s6' : St w w6 g [(BL L i i ++ secAt L i, false)] F6 (i + 1) [l] := s6; have S6 := Lib.hid s6'; have O6 := Lib.hid (O5.out.eqb (k6 l (by simp))); clear s6 s6' k6 h6) |
            (refine (flush_any S6.out.rep (by simp) (by omega)).mono ?_; rintro e w7 h7; obtain ⟨rfl, F7, s7, k7⟩ := S6.out.step h7; rw [List.map_cons, List.map_nil, flush_closed, BL_flush HLL.out hlt] at s7; have S7 := Lib.hid s7; have O7 := Lib.hid (O6.out.eqb (k7 l (by simp))); clear s7 k7 h7))
          exact ⟨⟨i + 1, by omega, hlt, by go_num, F7, S7.out, O7.out⟩, by simp [intOf]; omega⟩
        · have hne1 : ((i : Int) == (q : Int)) = false := by rw [beq_eq_false_iff_ne]; omega
          go_wp2_with (first | (refine wpList_load_agg 27 _ rfl rfl rfl ((secAt L i).map bv) (secAt_row O5.out hlt) _ Try.underlying27 rfl (i27.trans (by rw [List.length_map, secAt_len HLL.out hlt])) ?_) |
            (refine (write_ok S5.out.rep (by omega) 0 (BL L q i, false) rfl (secAt L i) (secAt_len HLL.out hlt)).mono ?_; rintro e w6 h6; obtain ⟨rfl, F6, s6, k6⟩ := S5.out.step h6; have s6' : St w w6 g [(BL L q i ++ secAt L i, false)] F6 (i + 1) [l] := s6; rw [BL_step hiq] at s6'; have S6 := Lib.hid s6'; have O6 := Lib.hid (O5.out.eqb (k6 l (by simp))); clear s6 s6' k6 h6))
          exact ⟨⟨i + 1, by omega, hlt, by go_num, F6, S6.out, O6.out⟩, by simp [intOf]; omega⟩
      · have hi : i = N := by omega
        subst hi
        rw [BL_all HLL.out hq2] at S5
        go_wp2_with (refine (fall_any S5.out.rep (by simp)).mono ?_; rintro e w6 h6; obtain ⟨rfl, F6, s6, k6⟩ := S5.out.step h6; have S6 := Lib.hid s6; have O6 := Lib.hid (O5.out.eqb (k6 l (by simp))); clear s6 k6 h6)
        go_loopw [11] (fun j wr => ∃ j' : Nat, j' ≤ i ∧ j = .int .i64 j' ∧ LastsRel2 w g l i c4 L [(L.drop (q * 64), true)] F6 wr) (fun j _ => i - (intOf j).toNat)
        case atStart => exact ⟨0, by omega, rfl, S6.out, O6.out⟩
        case round =>
          obtain ⟨j, hj, rfl, s7, o7⟩ := hrel
          have S7 := Lib.hid s7; have O7 := Lib.hid o7; clear s7 o7
          by_cases hlj : j < i
          · obtain ⟨y, hy⟩ : ∃ y, secAt L j = y := ⟨_, rfl⟩
            have LY := Lib.hid (show y.length = 64 by rw [← hy]; exact secAt_len HLL.out hlj)
            have HY := Lib.hid hy; clear hy
            go_wp2_with fail
            go_loopw [12, 13] (fun b t wr => ∃ t' : Nat, q ≤ t' ∧ t' ≤ i ∧ t = .int .i64 t' ∧ b = .bool (laterB L q t' y) ∧ LastsRel2 w g l i c4 L [(L.drop (q * 64), true)] F6 wr) (fun _ t _ => i - (intOf t).toNat)
            case atStart => exact ⟨q, by omega, by omega, rfl, by unfold laterB; rw [Nat.sub_self]; rfl, S7.out, O7.out⟩
            case round =>
              obtain ⟨t, ht1, ht2, rfl, rfl, s8, o8⟩ := hrel
              have S8 := Lib.hid s8; have O8 := Lib.hid o8; clear s8 o8
              by_cases hlt2 : t < i
              · obtain ⟨lb, hlb⟩ : ∃ lb, laterB L q t y = lb := ⟨_, rfl⟩
                obtain ⟨lc, hlc⟩ : ∃ lc, laterB L q (t + 1) y = lc := ⟨_, rfl⟩
                have hst := later_step (L := L) (s := y) ht1
                rw [hlb, hlc] at hst
                rw [hlb]
                obtain ⟨r, hr⟩ : ∃ r, decide (secAt L t = y) = r := ⟨_, rfl⟩
                rw [hr] at hst
                have HR := Lib.hid hr; have HST := Lib.hid hst; have HLC := Lib.hid hlc; clear hr hst hlb hlc
                rcases lb with _ | _
                · go_wp2_with fail
                  refine wp_region_held (S := (fun w' => Nw wr w')) (by kernel_rfl) ?_
                  change wpAnyH _ _ _ _ _ _ _ _ (World.drew wr)
                  refine held_seg' (l := [0, 1, 2, 3, 4, 5, 6, 7, 8, 9, 10, 11, 12]) (fuel := 0) rfl (by kernel_rfl) (by kernel_rfl) (by simp only [List.filterMap_cons, List.filterMap_nil, List.getElem?_toArray, List.getElem?_cons_succ, List.getElem?_cons_zero]; rfl) (fun _ _ d _ _ h => by cases d <;> exact h) (gb_drew (Nw.refl wr)) ?_
                  iterate 5 (refine wpYield_step rfl (fun K hK => ?_)
                             apply Exists.intro
                             refine ⟨fun w' hw' => ?_, ?_⟩
                             · (go_simp; try with_reducible rfl)
                             go_simp
                             refine hK _ ?_
                             clear hK K)
                  refine wpYield_load_agg 27 _ rfl rfl rfl ((secAt L t).map bv) (fun w' hw' => secAt_row (O8.out.nw hw') hlt2) _ Try.underlying27 rfl (i27.trans (by rw [List.length_map, secAt_len HLL.out hlt2])) ?_
                  iterate 3 (refine wpYield_step rfl (fun K hK => ?_)
                             apply Exists.intro
                             refine ⟨fun w' hw' => ?_, ?_⟩
                             · (go_simp; try with_reducible rfl)
                             go_simp
                             refine hK _ ?_
                             clear hK K)
                  refine wpYield_load_agg 27 _ rfl rfl rfl (y.map bv) (fun w' hw' => by rw [← HY.out]; exact secAt_row (O8.out.nw hw') hlj) _ Try.underlying27 rfl (i27.trans (by rw [List.length_map, LY.out])) ?_
                  refine wpYield_eq_arr false 27 _ 5 64 _ _ rfl rfl (secAt L t) y Try.underlying27 Try.underlying5 (by kernel_rfl) (by kernel_rfl) rfl rfl (secAt_len HLL.out hlt2) LY.out r (by rw [HR.out]; simp) ?_
                  iterate 2 (refine wpYield_step rfl (fun K hK => ?_)
                             apply Exists.intro
                             refine ⟨fun w' hw' => ?_, ?_⟩
                             · (go_simp; try with_reducible rfl)
                             go_simp
                             refine hK _ ?_
                             clear hK K)
                  refine wpYield_nil ?_
                  refine wpAnyH_done (by kernel_rfl) ?_ _
                  have hst := HST.out
                  simp only [Bool.false_or] at hst
                  go_wp2
                  exact ⟨⟨t + 1, by omega, hlt2, by go_num, by rw [HLC.out, hst], S8.out.more (gb_drew (Nw.refl wr)) |>.1, O8.out.nw (gb_drew (Nw.refl wr))⟩, by simp [intOf]; omega⟩
                · go_wp2_with fail
                  refine wp_region_held (S := (fun w' => Nw wr w')) (by kernel_rfl) ?_
                  change wpAnyH _ _ _ _ _ _ _ _ (World.drew wr)
                  refine held_seg' (l := [0, 1, 2, 3, 4, 5, 6, 7, 8, 9, 10, 11, 12]) (fuel := 0) rfl (by kernel_rfl) (by kernel_rfl) (by simp only [List.filterMap_cons, List.filterMap_nil, List.getElem?_toArray, List.getElem?_cons_succ, List.getElem?_cons_zero]; rfl) (fun _ _ d _ _ h => by cases d <;> exact h) (gb_drew (Nw.refl wr)) ?_
                  iterate 2 (refine wpYield_step rfl (fun K hK => ?_)
                             apply Exists.intro
                             refine ⟨fun w' hw' => ?_, ?_⟩
                             · (go_simp; try with_reducible rfl)
                             go_simp
                             refine hK _ ?_
                             clear hK K)
                  iterate 9 (refine wpYield_skipK rfl (fun K hK => ?_); go_simp; refine hK _ ?_; clear hK K)
                  iterate 2 (refine wpYield_step rfl (fun K hK => ?_)
                             apply Exists.intro
                             refine ⟨fun w' hw' => ?_, ?_⟩
                             · (go_simp; try with_reducible rfl)
                             go_simp
                             refine hK _ ?_
                             clear hK K)
                  refine wpYield_nil ?_
                  refine wpAnyH_done (by kernel_rfl) ?_ _
                  have hst := HST.out
                  simp only [Bool.true_or] at hst
                  go_wp2
                  exact ⟨⟨t + 1, by omega, hlt2, by go_num, by rw [HLC.out, hst], S8.out.more (gb_drew (Nw.refl wr)) |>.1, O8.out.nw (gb_drew (Nw.refl wr))⟩, by simp [intOf]; omega⟩
              · have ht : t = i := by omega
                subst ht
                obtain ⟨lb, hlb⟩ : ∃ lb, laterB L q t y = lb := ⟨_, rfl⟩
                rw [hlb]
                have hmay : hasB (L.drop (q * 64)) y = lb := by rw [later_all HLL.out, hlb]
                have HMAY := Lib.hid hmay; clear hmay hlb
                go_wp2_with (first | (refine wpList_load_agg 27 _ rfl rfl rfl (y.map bv) (by rw [← HY.out]; exact secAt_row O8.out hlj) _ Try.underlying27 rfl (i27.trans (by rw [List.length_map, LY.out])) ?_) |
                  (refine (may_in S8.out.rep (by omega) 0 (L.drop (q * 64), true) rfl y LY.out).mono ?_; rintro e w9 ⟨rfl, n9⟩; (rw [show (if (L.drop (q * 64), true).2 = true then hasB (L.drop (q * 64), true).1 y else decide (lastB (L.drop (q * 64), true).1 = y)) = lb from HMAY.out]); have S9 := Lib.hid (S8.out.more n9).1; have O9 := Lib.hid (O8.out.nw n9); clear n9))
                rcases lb with _ | _
                all_goals
                  go_wp2
                  exact ⟨⟨j + 1, hlj, by go_num, S9.out, O9.out⟩, by simp [intOf]; omega⟩
          · obtain ⟨d, hd⟩ : ∃ d : Nat, d = i - q := ⟨_, rfl⟩
            have hd1 : (i : Int) - (q : Int) = (d : Int) := by omega
            have hd2 : 1 ≤ d ∧ d ≤ 41 := by omega
            obtain ⟨p, hp2, hp3⟩ := mod_nat m' d hd2.1
            obtain ⟨x0, hx0⟩ : ∃ x0 : Nat, x0 = q + p := ⟨_, rfl⟩
            have hx1 : (q : Int) + (p : Int) = (x0 : Int) := by omega
            have hx2 : x0 < i := by omega
            have LS := Lib.hid (secAt_len HLL.out hx2)
            obtain ⟨s, hs⟩ : ∃ s, secAt L x0 = s := ⟨_, rfl⟩
            have hsb : hasB (L.drop (q * 64)) s = true := (hasB_iff _ s).2 ⟨p, by rw [List.length_drop, HLL.out, ← Nat.sub_mul]; omega, by rw [secAt_drop, ← hx0, hs]⟩
            have hrow := secAt_row O7.out hx2
            rw [hs] at LS hrow
            have HSB := Lib.hid hsb
            have HROW := Lib.hid hrow
            have HD := Lib.hid hd; have HX0 := Lib.hid hx0
            clear hsb hrow hs hd hx0
            go_wp2_with (first |
              (refine (settle_in S9.out.rep (by omega) 0 (L.drop (q * 64), true) rfl s LS.out).mono ?_; rintro e w10 h10; obtain ⟨rfl, F10, s10, k10⟩ := S9.out.step h10; have e1 : mayOf (L.drop (q * 64), true) s = true := HSB.out; have e2 : settleB (L.drop (q * 64), true) s = (s, false) := by (unfold settleB; rw [e1]; rfl)
               rw [e2] at s10; rw [e1]; have s10' : St w w10 g [(s, false)] F10 i [x, l] := s10; have S10 := Lib.hid s10'; have OX10 := Lib.hid (OX9.out.eq (k10 x (by simp))); have O10 := Lib.hid (O9.out.eqb (k10 l (by simp))); clear s10 s10' k10 h10 e1 e2) |
              (refine wpList_load_agg 27 _ rfl rfl rfl (s.map bv) (load_of OX9.out) _ Try.underlying27 rfl (i27.trans (by rw [List.length_map, LS.out])) ?_) |
              (refine wpList_store_own (cs := s.map bv) 27 _ _ rfl rfl rfl rfl rfl (i27.trans (by rw [List.length_map, LS.out])) (bv_one _) A1.out (by rw [List.length_map, LS.out]; decide) ?_; intro w9 c1 c2; have S9 := Lib.hid (S8.out.write (x := x) (by simp) A3.out c2); have o9 := Own.row1 c1; rw [splice_all _ _ (by rw [List.length_map, LS.out, A1.out.len])] at o9; have OX9 := Lib.hid o9; have O9 := Lib.hid (O8.out.eqb (c2.block l (by obtain ⟨cur, hc⟩ := O8.out.obj; exact hc.lt) (by intro e; injection e with e; exact XL.out e.symm))); clear o9 c1 c2) |
              (refine wpList_alloc (size := 64) 27 rfl rfl w.heap.size i0 HI.out HZ.out (by kernel_rfl) S7.out.nw.size ?_; intro x w8 a1 a2 a3; have S8 := Lib.hid (((S7.out.more a2).1).addVar (x := x) (by obtain ⟨cur, hc⟩ := a1.obj; exact hc.lt) (fun hm => by have := S7.out.rep.lt x hm; omega)); have A1 := Lib.hid a1; have A3 := Lib.hid (Nat.le_trans S7.out.nw.size a3); have O8 := Lib.hid (O7.out.nw a2); have XL := Lib.hid (show x ≠ l from by obtain ⟨cur, hc⟩ := O7.out.obj; have := hc.lt; omega); clear a1 a2 a3) |
              (refine wpList_load_agg 27 _ rfl rfl rfl (s.map bv) HROW.out _ Try.underlying27 rfl (i27.trans (by rw [List.length_map, LS.out])) ?_))
            go_loopw [15] (fun j wr => ∃ j' : Nat, j' ≤ i ∧ j = .int .i64 j' ∧ LastsRel3 w g l x i c4 L s [(s, false)] F10 wr) (fun j _ => i - (intOf j).toNat)
            case atStart => exact ⟨0, by omega, rfl, S10.out, O10.out, OX10.out⟩
            case round =>
              obtain ⟨j, hj, rfl, s13, o13, ox13⟩ := hrel
              have S13 := Lib.hid s13; have O13 := Lib.hid o13; have OX13 := Lib.hid ox13; clear s13 o13 ox13
              by_cases hlt : j < i
              · obtain ⟨r, hr⟩ : ∃ r, decide (secAt L j = s) = r := ⟨_, rfl⟩
                have HR := Lib.hid hr; clear hr
                go_wp2_with fail
                refine wp_region_held (S := (fun w' => Nw wr w')) (by kernel_rfl) ?_
                change wpAnyH _ _ _ _ _ _ _ _ (World.drew wr)
                refine held_seg' (l := [0, 1, 2, 3, 4, 6, 7, 8, 9, 10, 11]) (fuel := 2) rfl (by kernel_rfl) (by kernel_rfl) (by simp only [List.filterMap_cons, List.filterMap_nil, List.getElem?_toArray, List.getElem?_cons_succ, List.getElem?_cons_zero]; rfl) (fun _ _ d _ _ h => by cases d <;> exact h) (gb_drew (Nw.refl wr)) ?_
                iterate 4 (refine wpYield_step rfl (fun K hK => ?_)
                           apply Exists.intro
                           refine ⟨fun w' hw' => ?_, ?_⟩
                           · (go_simp; try with_reducible rfl)
                           go_simp
                           refine hK _ ?_
                           clear hK K)
                refine wpYield_load_agg 27 _ rfl rfl rfl ((secAt L j).map bv) (fun w' hw' => secAt_row (O13.out.nw hw') hlt) _ Try.underlying27 rfl (i27.trans (by rw [List.length_map, secAt_len HLL.out hlt])) ?_
                iterate 3 (refine wpYield_step rfl (fun K hK => ?_)
                           apply Exists.intro
                           refine ⟨fun w' hw' => ?_, ?_⟩
                           · (go_simp; try with_reducible rfl)
                           go_simp
                           refine hK _ ?_
                           clear hK K)
                refine wpYield_load_agg 27 _ rfl rfl rfl ((secAt L j).map bv) (fun w' hw' => secAt_row (O13.out.nw hw') hlt) _ Try.underlying27 rfl (i27.trans (by rw [List.length_map, secAt_len HLL.out hlt])) ?_
                refine wpYield_load_agg 27 _ rfl rfl rfl (s.map bv) (fun w' hw' => load_of (OX13.out.nw hw')) _ Try.underlying27 rfl (i27.trans (by rw [List.length_map, LS.out])) ?_
                refine wpYield_eq_arr false 27 _ 5 64 _ _ rfl rfl (secAt L j) s Try.underlying27 Try.underlying5 (by kernel_rfl) (by kernel_rfl) rfl rfl (secAt_len HLL.out hlt) LS.out r (by rw [HR.out]; simp) ?_
                refine wpYield_nil ?_
                refine held_eff 5 rfl (by kernel_rfl) rfl (fun K hK => ?_)
                go_simp
                refine (may_in (S13.out.rep.nw (gb_drew (Nw.refl wr))) (by omega) 0 (s, false) rfl (secAt L j) (secAt_len HLL.out hlt)).mono ?_
                rintro e w14 ⟨rfl, n14⟩
                refine hK _ _ ⟨gb_of_drew n14, ?_⟩
                clear hK K
                have e1 : (if (s, false).2 = true then hasB (s, false).1 (secAt L j) else decide (lastB (s, false).1 = secAt L j)) = r := by
                  rw [← HR.out]; show decide (lastB s = secAt L j) = _; rw [last_self LS.out]; exact decide_eq_decide.2 ⟨fun h => h.symm, fun h => h.symm⟩
                rw [e1]
                refine held_seg' (l := [12]) (fuel := 0) rfl (by kernel_rfl) (by kernel_rfl) (by simp only [List.filterMap_cons, List.filterMap_nil, List.getElem?_toArray, List.getElem?_cons_succ, List.getElem?_cons_zero]; rfl) (fun _ _ d _ _ h => by cases d <;> exact h) (gb_of_drew n14) ?_
                (refine wpYield_step rfl (fun K hK => ?_)
                 apply Exists.intro
                 refine ⟨fun w' hw' => ?_, ?_⟩
                 · (go_simp; try with_reducible rfl)
                 go_simp
                 refine hK _ ?_
                 clear hK K)
                refine wpYield_nil ?_
                refine wpAnyH_done (by kernel_rfl) ?_ _
                clear e1
                have S14 := Lib.hid (S13.out.more (gb_of_drew n14)).1; have OX14 := Lib.hid (OX13.out.nw (gb_of_drew n14)); have O14 := Lib.hid (O13.out.nw (gb_of_drew n14)); clear n14
                go_wp2
                exact ⟨⟨j + 1, hlt, by go_num, S14.out, O14.out, OX14.out⟩, by simp [intOf]; omega⟩
              · go_wp2
                go_ret
                exact ⟨rfl, S13.out.nw⟩
end Go.Proofs.Ytblkdmnfmnbbeaa

