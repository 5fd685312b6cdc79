/- The Go function BitsTakes returns true for every int and two slices of ints, where the library's table lies as it was laid; without other conditions. -/
import Derived.Test.YtoinkofoaodkhaaDoorH
import Derived.Test.YtoinkofoaodkhaaDoorFr
import Derived.Deep.Cut
import Derived.Deep.CutRange
import Derived.Deep.DeepCutAuto
namespace Go.Proofs.YtoinkofoaodkhaaDoor
open Go.RowKit Go.BW Go.BW.Bit

theorem T42 : El Tryd.prog 42 4 (.bool false) 1 1 := El.mk' Tryd.underlying42 (by kernel_rfl) rfl (by decide)
def bo (b : Bool) : Value := .bool b
theorem toList_madeB (n : Nat) : (madeCells (Value.bool false).cells n).toList = (List.replicate n false).map bo := by
  apply List.ext_getElem?
  intro j
  by_cases hj : j < n
  · simp [madeCells, hj, Value.cells, bo, Nat.mod_one]
  · simp [madeCells, hj]
/-- the places that a law keeps beside -/
abbrev TR (w : World) (t N : Nat) (bs : List Bool) : Prop := Own w 0 4 1 (some ⟨t, 0, none⟩) N N (bs.map bo)
section
variable {wb w w' : World} {g t N : Nat} {bs : List Bool}
theorem TR.chg (h : TR w t N bs) (hb : BR w g bs) (k : Chg w w' [g]) : TR w' t N bs := by
  obtain ⟨cur, ho⟩ := Own.obj h
  exact Own.eqb h (k.block t ho.lt (by simp; exact ho.ne hb.1 (by decide)))
theorem TR.at (h : TR w t N bs) (hl : bs.length = N) {k : Nat} (hk : k < N) : w.cell? ⟨t, k, none⟩ = some (.bool (bs.getD k false)) ∧ w.frozen? ⟨t, k, none⟩ = false := by
  obtain ⟨u, h1, h2, h3⟩ := Own.cellAt h hk
  rw [List.getElem?_map, List.getElem?_eq_getElem (by omega)] at h1
  injection h1 with h1
  refine ⟨?_, h3⟩
  rw [h2, ← h1, List.getD_eq_getElem?_getD, List.getElem?_eq_getElem (by omega)]
  rfl
theorem TR.set (h : TR w t N bs) (k : Nat) (b : Bool) : TR (w.setCell ⟨t, k, none⟩ (.bool b)) t N (bs.set k b) ∧ w.grownBy (w.setCell ⟨t, k, none⟩ (.bool b)) (some t) := by
  have := Own.set h k (bo b)
  rw [← List.map_set] at this
  exact this
theorem BS.row {cs : List Bool} (h : BS wb w g bs) (ht : TR w t N cs) (k : w.grownBy w' (some t)) (hb : wb.heap.size ≤ t) : BS wb w' g bs := by
  obtain ⟨cur, ho⟩ := Own.obj ht
  exact ⟨⟨h.rep.1.eq (k.block g h.rep.1.lt (by intro e; injection e with e; exact h.rep.1.ne ho (by decide) e)), h.rep.2⟩, h.ge, nw_of_gb h.nw k (by intro x e; injection e with e; omega)⟩
end
def TakesRel (w : World) (g t N : Nat) (c : Value) (wr : World) : Prop := ∃ bs, BS w wr g bs ∧ TR wr t N bs ∧ bs.length = N ∧ c = .int .i64 (cnt bs : Nat)
def LeftRel (w : World) (g t N M : Nat) (wr : World) : Prop := ∃ bs, BS w wr g bs ∧ TR wr t N bs ∧ bs.length = N ∧ M = N - cnt bs
theorem nxt_of_lt {bs : List Bool} (h : cnt bs < bs.length) : ∃ K, nxt bs 0 = some K := by
  cases hx : nxt bs 0 with
  | some K => exact ⟨K, rfl⟩
  | none =>
    exfalso
    have hall := (nxt_none bs 0).1 hx
    have h2 : ∀ k, k ≤ bs.length → cnt (bs.take k) = k := by
      intro k
      induction k with
      | zero => intro _; simp [cnt]
      | succ k ih => intro hk; rw [cnt_take _ _ (by omega), ih (by omega), hall k (by omega) (by omega)]; rfl
    have := h2 bs.length (Nat.le_refl _)
    rw [List.take_of_length_le (Nat.le_refl _)] at this
    omega
theorem all_of_eq : ∀ (bs : List Bool), cnt bs = bs.length → ∀ j, j < bs.length → bs.getD j false = true
  | [], _, j, h => by simp at h
  | b :: bs, h, j, hj => by
    have h1 : cnt bs ≤ bs.length := cnt_le bs
    have h2 : cnt (b :: bs) = cnt bs + b.toNat := by unfold cnt; rw [List.count_cons]; cases b <;> simp
    rw [h2, List.length_cons] at h
    have hb : b = true := by cases b <;> simp at h ⊢ <;> omega
    subst hb
    simp at h
    rcases j with _ | j
    · rfl
    · have := all_of_eq bs h j (by simpa using hj)
      simpa using this
set_option maxRecDepth 100000 in
set_option maxHeartbeats 16000000 in
theorem takes_walk (n0 : Int) (_ : -9223372036854775808 ≤ n0 ∧ n0 ≤ 9223372036854775807) {w : World} (A : Option Addr) (len cap : Nat) (zs : List Int) (hin : InI w A len cap zs) (A2 : Option Addr) (len2 cap2 : Nat) (zs2 : List Int) (hin2 : InI w A2 len2 cap2 zs2) (ht : Tab w) :
    Calls Tryd.prog 7 #[.int .i64 n0, .slice A len cap, .slice A2 len2 cap2] w (Ret (.bool true) w) := by
  obtain ⟨hr, hc, hcm, _, _⟩ := hin
  obtain ⟨hr2, hc2, hcm2, _, _⟩ := hin2
  have HR := Lib.hid hr; have HR2 := Lib.hid hr2; have HT := Lib.hid ht
  clear hr hr2 ht
  unfold maxLen at hcm hcm2
  obtain ⟨m, N, hm, hN, hN2⟩ := cut_num n0
  have HNEW := Lib.hid (fun w => new_N N hN2 w)
  go_enter Tryd.func7, Tryd.ntmps7
  go_wp2_with (first | (refine wpList_make T42 _ _ rfl rfl w.heap.size .i64 .i64 _ _ N rfl rfl rfl rfl (by unfold maxLen; omega) S1.out.nw.size ?_; intro t w3 o3 n3 _; have T3 := Lib.hid (o3.more (Nat.zero_le _)); have HTB := Lib.hid (show w.heap.size ≤ t from o3.blk t rfl); have S3 := Lib.hid (S1.out.more n3); clear o3 n3) |
    (refine (len_any S1.out.rep).mono ?_; rw [List.length_replicate]; rintro e w2 ⟨rfl, rfl⟩) |
    (refine (HNEW.out _).mono ?_; rintro e w2 h1; obtain ⟨ga, rfl, s1, hga, n2⟩ := BS.of_new N1.out h1; have S1 := Lib.hid s1; clear s1 h1 hga n2; unfold pv) |
    ((with_reducible refine (shown_any HT.out).mono ?_); rintro e w1 ⟨rfl, n1⟩; have N1 := Lib.hid n1; clear n1))
  clear hm hN
  have HT3 := T3.out
  rw [toList_madeB, Nat.mul_one] at HT3
  have T3' := Lib.hid HT3; clear HT3 T3
  go_loopw [10, 11] (fun c i wr => ∃ i' : Nat, i = .int .i64 i' ∧ i' ≤ 300 ∧ TakesRel w ga t N c wr) (fun _ i _ => 300 - (intOf i).toNat)
  case atStart => exact ⟨0, rfl, by omega, _, S3.out, T3'.out, by simp, by rw [cnt_zero]; rfl⟩
  case round =>
    obtain ⟨i, rfl, hi1, bs, s5, t5, len5, rfl⟩ := hrel
    have S5 := Lib.hid s5; have T5 := Lib.hid t5; have L5 := Lib.hid len5; clear s5 t5 len5
    obtain ⟨C, hC⟩ : ∃ C, cnt bs = C := ⟨_, rfl⟩
    have hCN : C ≤ N := by have := cnt_le bs; have := L5.out; omega
    rw [hC]
    have HC := Lib.hid hC; clear hC
    by_cases hlt : i < 300 ∧ (i < len ∨ i < len2)
    · obtain ⟨hlt1, hor⟩ := hlt
      have hb3 : (i : Int) < 300 := by omega
      have hor2 : (i < len) ∨ (¬ i < len ∧ i < len2) := by omega
      clear hor
      rcases hor2 with hA | ⟨hA, hB⟩
      · obtain ⟨b1, off1, rfl, hz1, hcu1⟩ := (HR.out.nw S5.out.nw (Nat.le_refl _)).atI hA
        obtain ⟨z1, hzz1⟩ : ∃ z, zs[i] = z := ⟨_, rfl⟩
        rw [hzz1] at hcu1
        clear hzz1 hz1
        go_upto_if 61 with fail
        go_cut [10] (fun c wx => TakesRel w ga t N c wx)
        case first =>
          rcases (show z1 < 0 ∨ (¬ z1 < 0 ∧ (N : Int) ≤ z1) ∨ (0 ≤ z1 ∧ z1 < N) from by omega) with g0 | ⟨g0, g1⟩ | ⟨g0, g1⟩
          · have HTF := Lib.hid (show takeF bs z1 = (3, bs) from takeF_out (by rw [L5.out]; omega))
            have b0 : decide (0 ≤ z1) = false := by simp; omega
            go_wp2_with ((refine (takeAt_any S5.out.rep z1).mono ?_); intro e w6 h6; obtain ⟨he, s6, c6⟩ := S5.out.step h6; rw [HTF.out] at he s6; subst he; have S6 := Lib.hid s6; have T6 := Lib.hid (T5.out.chg S5.out.rep c6); clear s6 c6 h6)
            go_meet
            exact ⟨bs, S6.out, T6.out, L5.out, by rw [HC.out]⟩
          · have HTF := Lib.hid (show takeF bs z1 = (3, bs) from takeF_out (by rw [L5.out]; omega))
            have b0 : decide (0 ≤ z1) = true := by simp; omega
            have b1 : decide (z1 < (N : Int)) = false := by simp; omega
            go_wp2_with ((refine (takeAt_any S5.out.rep z1).mono ?_); intro e w6 h6; obtain ⟨he, s6, c6⟩ := S5.out.step h6; rw [HTF.out] at he s6; subst he; have S6 := Lib.hid s6; have T6 := Lib.hid (T5.out.chg S5.out.rep c6); clear s6 c6 h6)
            go_meet
            exact ⟨bs, S6.out, T6.out, L5.out, by rw [HC.out]⟩
          · obtain ⟨k, rfl⟩ : ∃ k : Nat, z1 = k := ⟨z1.toNat, by omega⟩
            have hk : k < N := by omega
            have hkb : k < bs.length := by rw [L5.out]; exact hk
            have HKB := Lib.hid hkb
            cases hv : bs.getD k false with
            | true =>
              have HTF := Lib.hid (show takeF bs (k : Int) = (9, bs) from takeF_st hkb hv)
              have HV := Lib.hid hv; clear hv hkb g0 g1
              go_wp2_with ((refine (takeAt_any S5.out.rep (k : Int)).mono ?_); intro e w6 h6; obtain ⟨he, s6, c6⟩ := S5.out.step h6; rw [HTF.out] at he s6; subst he; have S6 := Lib.hid s6; have T6 := Lib.hid (T5.out.chg S5.out.rep c6); obtain ⟨d0, d1⟩ := T6.out.at L5.out hk; rw [HV.out] at d0; clear s6 c6 h6)
              go_meet
              exact ⟨bs, S6.out, T6.out, L5.out, by rw [HC.out]⟩
            | false =>
              have HTF := Lib.hid (show takeF bs (k : Int) = (0, bs.set k true) from takeF_ok hkb hv)
              have HCC := Lib.hid (show cnt (bs.set k true) = C + 1 from by rw [cnt_set _ _ hkb hv, HC.out])
              have HV := Lib.hid hv; clear hv hkb g0 g1
              go_wp2_with ((refine (takeAt_any S5.out.rep (k : Int)).mono ?_); intro e w6 h6; obtain ⟨he, s6, c6⟩ := S5.out.step h6; rw [HTF.out] at he s6; subst he; have S6 := Lib.hid s6; have T6 := Lib.hid (T5.out.chg S5.out.rep c6); obtain ⟨d0, d1⟩ := T6.out.at L5.out hk; rw [HV.out] at d0; have T7 := Lib.hid (T6.out.set k true); have S7 := Lib.hid (S6.out.row T6.out T7.out.2 HTB.out); clear s6 c6 h6)
              go_meet
              exact ⟨(bs.set k true), S7.out, T7.out.1, (by rw [List.length_set]; exact L5.out), by rw [HCC.out]; go_num⟩
        case rest =>
          clear S5 T5 L5 HC hCN
          obtain ⟨bs, s5, t5, len5, rfl⟩ := hcut
          have S5 := Lib.hid s5; have T5 := Lib.hid t5; have L5 := Lib.hid len5; clear s5 t5 len5
          obtain ⟨C, hC⟩ : ∃ C, cnt bs = C := ⟨_, rfl⟩
          have hCN : C ≤ N := by have := cnt_le bs; have := L5.out; omega
          rw [hC]
          have HC := Lib.hid hC; clear hC
          rcases (show ¬ i < len2 ∨ i < len2 from by omega) with hB2 | hB2
          · go_wp2
            exact ⟨⟨i + 1, by go_num, by omega, bs, S5.out, T5.out, L5.out, by rw [HC.out]⟩, by simp [intOf]; omega⟩
          · obtain ⟨b2, off2, rfl, hz2, hcu2⟩ := (HR2.out.nw S5.out.nw (Nat.le_refl _)).atI hB2
            obtain ⟨z2, hzz2⟩ : ∃ z, zs2[i] = z := ⟨_, rfl⟩
            rw [hzz2] at hcu2
            clear hzz2 hz2
            rcases (show z2 < 0 ∨ (¬ z2 < 0 ∧ (N : Int) ≤ z2) ∨ (0 ≤ z2 ∧ z2 < N) from by omega) with g0 | ⟨g0, g1⟩ | ⟨g0, g1⟩
            · have HTF := Lib.hid (show freeF bs z2 = (3, bs) from freeF_out (by rw [L5.out]; omega))
              have b0 : decide (0 ≤ z2) = false := by simp; omega
              go_wp2_with ((refine (free_any S5.out.rep z2).mono ?_); intro e w6 h6; obtain ⟨he, s6, c6⟩ := S5.out.step h6; rw [HTF.out] at he s6; subst he; have S6 := Lib.hid s6; have T6 := Lib.hid (T5.out.chg S5.out.rep c6); clear s6 c6 h6)
              exact ⟨⟨i + 1, by go_num, by omega, bs, S6.out, T6.out, L5.out, by rw [HC.out]⟩, by simp [intOf]; omega⟩
            · have HTF := Lib.hid (show freeF bs z2 = (3, bs) from freeF_out (by rw [L5.out]; omega))
              have b0 : decide (0 ≤ z2) = true := by simp; omega
              have b1 : decide (z2 < (N : Int)) = false := by simp; omega
              go_wp2_with ((refine (free_any S5.out.rep z2).mono ?_); intro e w6 h6; obtain ⟨he, s6, c6⟩ := S5.out.step h6; rw [HTF.out] at he s6; subst he; have S6 := Lib.hid s6; have T6 := Lib.hid (T5.out.chg S5.out.rep c6); clear s6 c6 h6)
              exact ⟨⟨i + 1, by go_num, by omega, bs, S6.out, T6.out, L5.out, by rw [HC.out]⟩, by simp [intOf]; omega⟩
            · obtain ⟨k, rfl⟩ : ∃ k : Nat, z2 = k := ⟨z2.toNat, by omega⟩
              have hk : k < N := by omega
              have hkb : k < bs.length := by rw [L5.out]; exact hk
              have HKB := Lib.hid hkb
              cases hv : bs.getD k false with
              | false =>
                have HTF := Lib.hid (show freeF bs (k : Int) = (9, bs) from freeF_st hkb hv)
                have HV := Lib.hid hv; clear hv hkb g0 g1
                go_wp2_with ((refine (free_any S5.out.rep (k : Int)).mono ?_); intro e w6 h6; obtain ⟨he, s6, c6⟩ := S5.out.step h6; rw [HTF.out] at he s6; subst he; have S6 := Lib.hid s6; have T6 := Lib.hid (T5.out.chg S5.out.rep c6); obtain ⟨d0, d1⟩ := T6.out.at L5.out hk; rw [HV.out] at d0; clear s6 c6 h6)
                exact ⟨⟨i + 1, by go_num, by omega, bs, S6.out, T6.out, L5.out, by rw [HC.out]⟩, by simp [intOf]; omega⟩
              | true =>
                have HTF := Lib.hid (show freeF bs (k : Int) = (0, bs.set k false) from freeF_ok hkb hv)
                have hcc := cnt_unset _ _ hkb hv
                obtain ⟨D, hD⟩ : ∃ D, cnt (bs.set k false) = D := ⟨_, rfl⟩
                have HCC := Lib.hid hD
                rw [hD, HC.out] at hcc
                have e1 : (C : Int) - 1 = (D : Int) := by omega
                clear hD hcc
                have HV := Lib.hid hv; clear hv hkb g0 g1
                go_wp2_with ((refine (free_any S5.out.rep (k : Int)).mono ?_); intro e w6 h6; obtain ⟨he, s6, c6⟩ := S5.out.step h6; rw [HTF.out] at he s6; subst he; have S6 := Lib.hid s6; have T6 := Lib.hid (T5.out.chg S5.out.rep c6); obtain ⟨d0, d1⟩ := T6.out.at L5.out hk; rw [HV.out] at d0; have T7 := Lib.hid (T6.out.set k false); have S7 := Lib.hid (S6.out.row T6.out T7.out.2 HTB.out); clear s6 c6 h6)
                exact ⟨⟨i + 1, by go_num, by omega, (bs.set k false), S7.out, T7.out.1, (by rw [List.length_set]; exact L5.out), by rw [HCC.out]⟩, by simp [intOf]; omega⟩
      · go_upto_if 61 with fail
        go_cut [10] (fun c wx => TakesRel w ga t N c wx)
        case first =>
          go_wp2
          go_meet
          exact ⟨bs, S5.out, T5.out, L5.out, by rw [HC.out]⟩
        case rest =>
          clear S5 T5 L5 HC hCN
          obtain ⟨bs, s5, t5, len5, rfl⟩ := hcut
          have S5 := Lib.hid s5; have T5 := Lib.hid t5; have L5 := Lib.hid len5; clear s5 t5 len5
          obtain ⟨C, hC⟩ : ∃ C, cnt bs = C := ⟨_, rfl⟩
          have hCN : C ≤ N := by have := cnt_le bs; have := L5.out; omega
          rw [hC]
          have HC := Lib.hid hC; clear hC
          rcases (show ¬ i < len2 ∨ i < len2 from by omega) with hB2 | hB2
          · exact absurd hB hB2
          · obtain ⟨b2, off2, rfl, hz2, hcu2⟩ := (HR2.out.nw S5.out.nw (Nat.le_refl _)).atI hB2
            obtain ⟨z2, hzz2⟩ : ∃ z, zs2[i] = z := ⟨_, rfl⟩
            rw [hzz2] at hcu2
            clear hzz2 hz2
            rcases (show z2 < 0 ∨ (¬ z2 < 0 ∧ (N : Int) ≤ z2) ∨ (0 ≤ z2 ∧ z2 < N) from by omega) with g0 | ⟨g0, g1⟩ | ⟨g0, g1⟩
            · have HTF := Lib.hid (show freeF bs z2 = (3, bs) from freeF_out (by rw [L5.out]; omega))
              have b0 : decide (0 ≤ z2) = false := by simp; omega
              go_wp2_with ((refine (free_any S5.out.rep z2).mono ?_); intro e w6 h6; obtain ⟨he, s6, c6⟩ := S5.out.step h6; rw [HTF.out] at he s6; subst he; have S6 := Lib.hid s6; have T6 := Lib.hid (T5.out.chg S5.out.rep c6); clear s6 c6 h6)
              exact ⟨⟨i + 1, by go_num, by omega, bs, S6.out, T6.out, L5.out, by rw [HC.out]⟩, by simp [intOf]; omega⟩
            · have HTF := Lib.hid (show freeF bs z2 = (3, bs) from freeF_out (by rw [L5.out]; omega))
              have b0 : decide (0 ≤ z2) = true := by simp; omega
              have b1 : decide (z2 < (N : Int)) = false := by simp; omega
              go_wp2_with ((refine (free_any S5.out.rep z2).mono ?_); intro e w6 h6; obtain ⟨he, s6, c6⟩ := S5.out.step h6; rw [HTF.out] at he s6; subst he; have S6 := Lib.hid s6; have T6 := Lib.hid (T5.out.chg S5.out.rep c6); clear s6 c6 h6)
              exact ⟨⟨i + 1, by go_num, by omega, bs, S6.out, T6.out, L5.out, by rw [HC.out]⟩, by simp [intOf]; omega⟩
            · obtain ⟨k, rfl⟩ : ∃ k : Nat, z2 = k := ⟨z2.toNat, by omega⟩
              have hk : k < N := by omega
              have hkb : k < bs.length := by rw [L5.out]; exact hk
              have HKB := Lib.hid hkb
              cases hv : bs.getD k false with
              | false =>
                have HTF := Lib.hid (show freeF bs (k : Int) = (9, bs) from freeF_st hkb hv)
                have HV := Lib.hid hv; clear hv hkb g0 g1
                go_wp2_with ((refine (free_any S5.out.rep (k : Int)).mono ?_); intro e w6 h6; obtain ⟨he, s6, c6⟩ := S5.out.step h6; rw [HTF.out] at he s6; subst he; have S6 := Lib.hid s6; have T6 := Lib.hid (T5.out.chg S5.out.rep c6); obtain ⟨d0, d1⟩ := T6.out.at L5.out hk; rw [HV.out] at d0; clear s6 c6 h6)
                exact ⟨⟨i + 1, by go_num, by omega, bs, S6.out, T6.out, L5.out, by rw [HC.out]⟩, by simp [intOf]; omega⟩
              | true =>
                have HTF := Lib.hid (show freeF bs (k : Int) = (0, bs.set k false) from freeF_ok hkb hv)
                have hcc := cnt_unset _ _ hkb hv
                obtain ⟨D, hD⟩ : ∃ D, cnt (bs.set k false) = D := ⟨_, rfl⟩
                have HCC := Lib.hid hD
                rw [hD, HC.out] at hcc
                have e1 : (C : Int) - 1 = (D : Int) := by omega
                clear hD hcc
                have HV := Lib.hid hv; clear hv hkb g0 g1
                go_wp2_with ((refine (free_any S5.out.rep (k : Int)).mono ?_); intro e w6 h6; obtain ⟨he, s6, c6⟩ := S5.out.step h6; rw [HTF.out] at he s6; subst he; have S6 := Lib.hid s6; have T6 := Lib.hid (T5.out.chg S5.out.rep c6); obtain ⟨d0, d1⟩ := T6.out.at L5.out hk; rw [HV.out] at d0; have T7 := Lib.hid (T6.out.set k false); have S7 := Lib.hid (S6.out.row T6.out T7.out.2 HTB.out); clear s6 c6 h6)
                exact ⟨⟨i + 1, by go_num, by omega, (bs.set k false), S7.out, T7.out.1, (by rw [List.length_set]; exact L5.out), by rw [HCC.out]⟩, by simp [intOf]; omega⟩
    · have hloop : (¬ (i : Int) < 300) ∨ ((i : Int) < 300 ∧ ¬ i < len ∧ ¬ i < len2) := by omega
      clear hlt
      rcases hloop with hx | ⟨hx, hx2, hx3⟩
      all_goals
        obtain ⟨M, hM⟩ : ∃ M, N - C = M := ⟨_, rfl⟩
        have e1 : (N : Int) - (C : Int) = (M : Int) := by omega
        have HM := Lib.hid (show M = N - cnt bs from by rw [HC.out, hM])
        clear hM
        go_wp2_with fail
        go_loopw [18] (fun v wr => ∃ M : Nat, M ≤ N ∧ v = .int .i64 M ∧ LeftRel w ga t N M wr) (fun v _ => (intOf v).toNat)
        case atStart => exact ⟨M, by omega, rfl, bs, S5.out, T5.out, L5.out, HM.out⟩
        case round =>
          clear e1 HM S5 T5 L5 HC hCN
          obtain ⟨M, hMN, rfl, bs, s5, t5, len5, hM⟩ := hrel
          have S5 := Lib.hid s5; have T5 := Lib.hid t5; have L5 := Lib.hid len5; have HM := Lib.hid hM; clear s5 t5 len5 hM
          rcases (show 0 < M ∨ M = 0 from by omega) with hM0 | hM0
          · obtain ⟨K, hK⟩ := nxt_of_lt (bs := bs) (by have := L5.out; have := HM.out; omega)
            obtain ⟨k1, _, k3, k4⟩ := (nxt_some bs 0 K).1 hK
            have HK1 := Lib.hid k1; have HK3 := Lib.hid k3
            have hKN : K < N := by rw [← L5.out]; exact k1
            have HALL := Lib.hid k4
            have HNV := Lib.hid (show nextV bs 0 = .tuple #[.int .i64 (K : Int), .bool true] from by unfold nextV; rw [show (0 : Int).toNat = 0 from rfl, hK])
            have HTS := Lib.hid (show takeS bs = bs.set K true from by unfold takeS; rw [hK])
            have HCN := Lib.hid (cnt_set bs K k1 k3)
            have bN : decide (N ≤ K) = false := by simp; omega
            have b0 : ¬ ((K : Int) < 0) := by omega
            clear k1 k3 k4 hK
            have hM1 : (0 : Int) < (M : Int) := by omega
            go_wp2_with (refine (take_any S5.out.rep (S5.out.tab HT.out)).mono ?_; intro e w6 h6; obtain ⟨he, s6, c6⟩ := S5.out.take h6; rw [HNV.out] at he; rw [HTS.out] at s6; subst he; have S6 := Lib.hid s6; have T6 := Lib.hid (T5.out.chg S5.out.rep c6); obtain ⟨d0, d1⟩ := T6.out.at L5.out hKN; rw [HK3.out] at d0; clear s6 c6 h6)
            go_loopw [21] (fun j wr => ∃ j' : Nat, j' ≤ K ∧ j = .int .i64 j' ∧ wr = w6) (fun j _ => K - (intOf j).toNat)
            case atStart => exact ⟨0, Nat.zero_le _, rfl, rfl⟩
            case round =>
              obtain ⟨j, hj, rfl, rfl⟩ := hrel
              by_cases hlj : j < K
              · obtain ⟨f0, _⟩ := T6.out.at L5.out (show j < N by omega)
                rw [HALL.out j (Nat.zero_le _) hlj] at f0
                have hjN : j < N := by omega
                go_wp2
                exact ⟨⟨j + 1, hlj, by go_num, by first | rfl | trivial⟩, by simp [intOf]; omega⟩
              · have T7 := Lib.hid (T6.out.set K true)
                have S7 := Lib.hid (S6.out.row T6.out T7.out.2 HTB.out)
                obtain ⟨M', rfl⟩ : ∃ M', M = M' + 1 := ⟨M - 1, by omega⟩
                go_wp2
                exact ⟨⟨M', by omega, by go_num, bs.set K true, S7.out, T7.out.1, by rw [List.length_set]; exact L5.out, by rw [HCN.out]; have := HM.out; omega⟩, by first | (simp [intOf]; done) | (simp [intOf]; omega)⟩
          · subst hM0
            have hcn := cnt_le bs
            have hce : cnt bs = bs.length := by have := HM.out; have := L5.out; omega
            have hall := all_of_eq bs hce
            have hno : nxt bs 0 = none := (nxt_none bs 0).2 fun j _ hj => hall j hj
            have HNV := Lib.hid (show nextV bs 0 = .tuple #[.int .i64 0, .bool false] from by unfold nextV; rw [show (0 : Int).toNat = 0 from rfl, hno])
            have HTS := Lib.hid (show takeS bs = bs from by unfold takeS; rw [hno])
            have HCE := Lib.hid (show cnt bs = N from by rw [hce, L5.out])
            have HH1 := Lib.hid (show hasB bs (N : Int) = false from by unfold hasB inB; rw [L5.out]; simp)
            have HH2 := Lib.hid (show hasB bs (-1) = false from by unfold hasB inB; simp)
            have HX := Lib.hid (fun (w' : World) (h : BS w w' ga bs) => next_any h.rep (h.tab HT.out) 0 (by omega))
            have HY := Lib.hid (fun (w' : World) (h : BS w w' ga bs) => count_any h.rep)
            have HZ1 := Lib.hid (fun (w' : World) (h : BS w w' ga bs) => has_any h.rep (N : Int))
            have HZ2 := Lib.hid (fun (w' : World) (h : BS w w' ga bs) => has_any h.rep (-1))
            rw [HNV.out] at HX
            rw [HCE.out] at HY
            rw [HH1.out] at HZ1
            rw [HH2.out] at HZ2
            unfold pv at HX HY HZ1 HZ2
            clear hcn hce hall hno
            go_wp2_with (first |
              ((with_reducible refine (HZ1.out _ S6.out).mono ?_); rintro e w7 ⟨rfl, rfl⟩) |
              ((with_reducible refine (HZ2.out _ S6.out).mono ?_); rintro e w7 ⟨rfl, rfl⟩) |
              ((with_reducible refine (HY.out _ S6.out).mono ?_); rintro e w7 ⟨rfl, rfl⟩) |
              ((with_reducible refine (HX.out _ S6.out).mono ?_); rintro e w7 ⟨rfl, rfl⟩) |
              (refine (take_any S5.out.rep (S5.out.tab HT.out)).mono ?_; intro e w6 h6; obtain ⟨he, s6, c6⟩ := S5.out.take h6; rw [HNV.out] at he; rw [HTS.out] at s6; subst he; have S6 := Lib.hid s6; clear s6 c6 h6))
            go_ret
            exact ⟨rfl, S6.out.nw⟩
end Go.Proofs.YtoinkofoaodkhaaDoor

