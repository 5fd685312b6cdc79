/- The Go function BitsCounts returns true for every int and slice of ints, where the library's table lies as it was laid; without other conditions. -/
import Derived.Test.YtoinkofoaodkhaaDoorH
import Derived.Test.YtoinkofoaodkhaaDoorFr
namespace Go.Proofs.YtoinkofoaodkhaaDoor
open Go.RowKit Go.BW Go.BW.Bit

theorem cnt_range {bs : List Bool} {a : Nat} : ∀ k, a ≤ k → k ≤ bs.length → (∀ j, a ≤ j → j < k → bs.getD j false = true) → cnt (bs.take k) = cnt (bs.take a) + (k - a)
  | 0, h, _, _ => by have : a = 0 := by omega
                     subst this; simp
  | k + 1, h, hl, hall => by
    rcases Nat.lt_or_ge k a with h1 | h1
    · have : a = k + 1 := by omega
      subst this; simp
    · rw [cnt_take _ _ (by omega), cnt_range k h1 (by omega) (fun j h2 h3 => hall j h2 (by omega)), hall k h1 (by omega)]
      simp; omega
def freeN (bs : List Bool) (i : Nat) : List Bool := List.replicate i false ++ bs.drop i
theorem freeN_len (bs : List Bool) (i : Nat) (h : i ≤ bs.length) : (freeN bs i).length = bs.length := by simp [freeN]; omega
theorem freeN_at (bs : List Bool) (i : Nat) (h : i < bs.length) : (freeN bs i).getD i false = bs.getD i false := by
  unfold freeN
  rw [List.getD_eq_getElem?_getD, List.getElem?_append_right (by simp), List.length_replicate, Nat.sub_self, List.getElem?_drop, Nat.add_zero, List.getD_eq_getElem?_getD]
theorem freeN_set (bs : List Bool) (i : Nat) (h : i < bs.length) : (freeN bs i).set i false = freeN bs (i + 1) := by
  unfold freeN
  rw [List.set_append_right _ _ (by simp), List.length_replicate, Nat.sub_self, List.drop_eq_getElem_cons h, List.set_cons_zero, List.replicate_succ', List.append_assoc]
  rfl
theorem freeN_same (bs : List Bool) (i : Nat) (h : i < bs.length) (hv : bs.getD i false = false) : freeN bs i = freeN bs (i + 1) := by
  rw [← freeN_set bs i h]
  apply List.ext_getElem?
  intro j
  rw [List.getElem?_set]
  by_cases hj : i = j
  · subst hj
    have hl : i < (freeN bs i).length := by rw [freeN_len _ _ (Nat.le_of_lt h)]; exact h
    rw [if_pos rfl, if_pos hl]
    have := freeN_at bs i h
    rw [hv, List.getD_eq_getElem?_getD, List.getElem?_eq_getElem hl] at this
    rw [List.getElem?_eq_getElem hl]
    simpa using this
  · rw [if_neg hj]
def CRel (bs : List Bool) (f a : Nat) : Prop := a ≤ bs.length ∧ f + cnt (bs.take a) = a
def FRel (w : World) (g : Nat) (bs : List Bool) (i : Nat) (wr : World) : Prop := BS w wr g (freeN bs i)
set_option maxRecDepth 100000 in
set_option maxHeartbeats 8000000 in
theorem counts_walk (n0 : Int) (_ : -9223372036854775808 ≤ n0 ∧ n0 ≤ 9223372036854775807) {w : World} (A : Option Addr) (len cap : Nat) (zs : List Int) (hin : InI w A len cap zs) (ht : Tab w) :
    Calls Tryd.prog 5 #[.int .i64 n0, .slice A len cap] w (Ret (.bool true) w) := by
  obtain ⟨hr, hc, hcm, hll, _⟩ := hin
  have HR := Lib.hid hr; have HT := Lib.hid ht
  clear hr ht hll
  unfold maxLen at hcm
  obtain ⟨m, N, hm, hN, hN2⟩ := cut_num n0
  have HNEW := Lib.hid (fun w => new_N N hN2 w)
  go_enter Tryd.func5, Tryd.ntmps5
  go_wp2_with (first | (refine (HNEW.out _).mono ?_; rintro e w2 h1; obtain ⟨ga, rfl, s1, hga, n2⟩ := BS.of_new N1.out h1; have S1 := Lib.hid s1; clear s1 h1 hga n2; unfold pv) |
    ((with_reducible refine (shown_any HT.out).mono ?_); rintro e w1 ⟨rfl, n1⟩; have N1 := Lib.hid n1; clear n1))
  clear hm hN
  go_loopw [7] (fun i wr => ∃ i' : Nat, i = .int .i64 i' ∧ i' ≤ 500 ∧ i' ≤ len ∧ SetsRel w ga N wr) (fun i _ => 500 - (intOf i).toNat)
  case atStart => exact ⟨0, rfl, by omega, by omega, _, S1.out, by simp⟩
  case round =>
    obtain ⟨i, rfl, hi1, hi2, bs, s5, len5⟩ := hrel
    have S5 := Lib.hid s5; have L5 := Lib.hid len5; clear s5 len5
    by_cases hlt : i < len ∧ i < 500
    · obtain ⟨hlt1, hlt2⟩ := hlt
      obtain ⟨b, off, rfl, hz, hcu⟩ := (HR.out.nw S5.out.nw (Nat.le_refl _)).atI hlt1
      obtain ⟨z, hzz⟩ : ∃ z, zs[i] = z := ⟨_, rfl⟩
      rw [hzz] at hcu
      clear hzz hz
      go_wp2_with (refine (takeAt_any S5.out.rep z).mono ?_; intro e w6 h6; obtain ⟨rfl, s6, c6⟩ := S5.out.step h6; have S6 := Lib.hid s6; clear s6 c6 h6)
      exact ⟨⟨i + 1, by go_num, by omega, hlt1, _, S6.out, by rw [takeF_len]; exact L5.out⟩, by simp [intOf]; omega⟩
    · have hcases : (¬ i < len) ∨ (i < len ∧ i = 500) := by omega
      clear hlt
      rcases hcases with hlt1 | ⟨hlt1, rfl⟩
      all_goals
        go_wp2_with fail
        go_loopw [8, 9] (fun s t w' => ∃ f a : Nat, s = .int .i64 f ∧ t = .int .i64 a ∧ CRel bs f a ∧ w' = wr) (fun s _ _ => N + 1 - (intOf s).toNat)
        case atStart => exact ⟨0, 0, rfl, rfl, ⟨by omega, by simp [cnt]⟩, rfl⟩
        case round =>
          obtain ⟨f, a, rfl, rfl, ⟨ha, hfa⟩, rfl⟩ := hrel
          have hfN : f ≤ N := by have := L5.out; omega
          have haN : a ≤ N := by rw [← L5.out]; exact ha
          have hnx := next_any S5.out.rep (S5.out.tab HT.out) (a : Int) (by omega)
          unfold nextV at hnx
          rw [Int.toNat_natCast] at hnx
          cases hx : nxt bs a with
          | some K =>
            rw [hx] at hnx
            obtain ⟨k1, k2, k3, k4⟩ := (nxt_some bs a K).1 hx
            have HC := Lib.hid (show CRel bs (f + 1) (K + 1) from by
              refine ⟨k1, ?_⟩
              rw [cnt_take _ _ k1, k3, cnt_range K k2 (Nat.le_of_lt k1) k4]
              simp; omega)
            have HX := Lib.hid hnx
            unfold pv at HX
            have hKa : ¬ ((K : Int) < (a : Int)) := by omega
            have hKa' : decide (K < a) = false := by simp; omega
            have hK2 : K ≤ 2000 := by have := L5.out; omega
            clear hnx hx k3 k4 k1 hfa ha
            go_wp2_with (refine HX.out.mono ?_; rintro e w7 ⟨rfl, rfl⟩)
            exact ⟨⟨f + 1, K + 1, by go_num, by go_num, HC.out, by first | rfl | trivial⟩, by simp [intOf]; omega⟩
          | none =>
            rw [hx] at hnx
            have hall := (nxt_none bs a).1 hx
            have hcr := cnt_range bs.length ha (Nat.le_refl _) (fun j h1 h2 => hall j h1 h2)
            rw [List.take_of_length_le (Nat.le_refl _)] at hcr
            have hl5 := L5.out
            have HX := Lib.hid hnx
            have hcn := count_any S5.out.rep
            obtain ⟨C, hC⟩ : ∃ C, cnt bs = C := ⟨_, rfl⟩
            rw [hC] at hcn hcr
            have HCN := Lib.hid hcn
            unfold pv at HX HCN
            have hCN : C ≤ N := by omega
            have e1 : (N : Int) - (C : Int) = (f : Int) := by omega
            have hC2 : C ≤ 2000 := by omega
            have hf2 : f ≤ 2000 := by omega
            have ew : wrap64 ((N : Int) - (C : Int)) = (f : Int) := by rw [e1]; unfold wrap64; omega
            clear hnx hx hall hcr hl5 hcn hC hfa ha
            go_wp2_with (first | (refine HX.out.mono ?_; rintro e w7 ⟨rfl, rfl⟩) | (refine HCN.out.mono ?_; rintro e w8 ⟨rfl, rfl⟩))
            clear e1 ew
            go_loopw [12] (fun j w' => ∃ j' : Nat, j' ≤ N ∧ j = .int .i64 j' ∧ FRel w ga bs j' w') (fun j _ => N - (intOf j).toNat)
            case atStart => exact ⟨0, by omega, rfl, by unfold FRel freeN; simpa using S5.out⟩
            case round =>
              obtain ⟨j, hj, rfl, s9⟩ := hrel
              have S9 := Lib.hid s9; clear s9
              by_cases hlj : j < N
              · have hjl : j < bs.length := by rw [L5.out]; exact hlj
                have hfl := freeN_len bs j (Nat.le_of_lt hjl)
                have hh := S9.out.has j (by rw [hfl]; exact hjl)
                rw [freeN_at bs j hjl] at hh
                have hfr := free_any S9.out.rep (j : Int)
                have hib : inB (j : Int) (freeN bs j).length = true := by unfold inB; rw [hfl]; simp; exact hjl
                unfold freeF at hfr
                rw [hib, if_neg (by decide), Int.toNat_natCast, freeN_at bs j hjl, freeN_set bs j hjl] at hfr
                cases hv : bs.getD j false with
                | true =>
                  rw [hv] at hh hfr
                  rw [if_neg (by decide)] at hfr
                  have HH := Lib.hid hh; have HFR := Lib.hid hfr
                  unfold pv at HH HFR
                  clear hh hfr hib hfl hv hjl
                  go_wp2_with (first | (refine HFR.out.mono ?_; intro e w10 h10; obtain ⟨rfl, s10, c10⟩ := S9.out.step h10; have S10 := Lib.hid s10; clear s10 c10 h10) | (refine HH.out.mono ?_; rintro e w7 ⟨rfl, rfl⟩))
                  exact ⟨⟨j + 1, hlj, by go_num, S10.out⟩, by simp [intOf]; omega⟩
                | false =>
                  rw [hv] at hh hfr
                  rw [if_pos rfl] at hfr
                  have HH := Lib.hid hh; have HFR := Lib.hid hfr
                  have HSM := Lib.hid (freeN_same bs j hjl hv)
                  unfold pv at HH HFR
                  clear hh hfr hib hfl hv hjl
                  go_wp2_with (first | (refine HFR.out.mono ?_; intro e w10 h10; obtain ⟨rfl, s10, c10⟩ := S9.out.step h10; have S10 := Lib.hid s10; clear s10 c10 h10) | (refine HH.out.mono ?_; rintro e w7 ⟨rfl, rfl⟩))
                  exact ⟨⟨j + 1, hlj, by go_num, by unfold FRel; rw [← HSM.out]; exact S10.out⟩, by simp [intOf]; omega⟩
              · have hj' : N = j := by omega
                subst hj'
                have hz : freeN bs N = List.replicate N false := by unfold freeN; rw [List.drop_of_length_le (by rw [L5.out]; exact Nat.le_refl _), List.append_nil]
                have hnx := next_any S9.out.rep (S9.out.tab HT.out) 0 (by omega)
                have hcn := count_any S9.out.rep
                rw [hz, cnt_zero] at hcn
                rw [hz] at hnx
                unfold nextV at hnx
                rw [show (0 : Int).toNat = 0 from rfl] at hnx
                have HCN := Lib.hid hcn
                rcases Nat.eq_zero_or_pos N with h0 | h0
                · subst h0
                  rw [show nxt (List.replicate 0 false) 0 = none from rfl] at hnx
                  have HX := Lib.hid hnx
                  unfold pv at HX HCN
                  clear hnx hcn hz
                  go_wp2_with (first | (refine HX.out.mono ?_; rintro e w7 ⟨rfl, rfl⟩) | (refine HCN.out.mono ?_; rintro e w8 ⟨rfl, rfl⟩))
                  go_ret
                  exact ⟨rfl, S9.out.nw⟩
                · rw [show nxt (List.replicate N false) 0 = some 0 from (nxt_some _ _ _).2 ⟨by simpa using h0, Nat.le_refl _, by cases N <;> simp at h0 ⊢, fun j _ h => by omega⟩] at hnx
                  have HX := Lib.hid hnx
                  unfold pv at HX HCN
                  have hN0 : decide ((0 : Int) < (N : Int)) = true := by simp; exact h0
                  clear hnx hcn hz
                  go_wp2_with (first | (refine HX.out.mono ?_; rintro e w7 ⟨rfl, rfl⟩) | (refine HCN.out.mono ?_; rintro e w8 ⟨rfl, rfl⟩))
                  go_ret
                  exact ⟨rfl, S9.out.nw⟩
end Go.Proofs.YtoinkofoaodkhaaDoor

