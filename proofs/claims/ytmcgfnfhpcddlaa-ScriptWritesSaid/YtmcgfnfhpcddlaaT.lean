/- What the reference's Bytes returns, for all scripts. -/
import Derived.Test.YtmcgfnfhpcddlaaRJ
namespace Go.Proofs.Ytmcgfnfhpcddlaa
open Go.RowKit Go.BW

set_option maxRecDepth 100000 in
set_option maxHeartbeats 8000000 in
theorem rright_any {w : World} {B : Nat} {x : Sc} (h : SOk w B x) (hB : B ≤ w.heap.size) : Calls Try.prog 20 #[sv x] w (Ret (.bool (rightS (scr x))) w) := by
  have h1 := Lib.hid (fun w' => within2_any x.num 0 4294967295 w')
  have h2 := Lib.hid (fun w' => within2_any (x.n : Int) 3 12 w')
  have h3 := Lib.hid (fun w' => within2_any x.bl 1 96 w')
  have hz := h.zl; have ha := h.al
  have hm : rightS (scr x) = (inR x.num 0 4294967295 && inR x.n 3 12 && inR x.bl 1 96 && decide (x.m ≤ 120) && x.sz.all (fun n => inR n 160 4096) && x.acts.all rightA) := by rw [← hz, ← ha]; rfl
  have HS := Lib.hid h
  have hbox := Obj1.new w 25 #[.int .i64 x.num, .slice x.A x.n x.c, .int .i64 x.bl, .slice x.D x.m x.d]
  have hg0 := World.grownBy_alloc w (.cells #[.int .i64 x.num, .slice x.A x.n x.c, .int .i64 x.bl, .slice x.D x.m x.d] 25) none
  unfold sv
  obtain ⟨num, A, n, c, sz, bl, D, m, d, acts⟩ := x
  simp only at h1 h2 h3 hm hbox hg0 hz ha ⊢
  obtain ⟨b1, e1⟩ : ∃ q, inR num 0 4294967295 = q := ⟨_, rfl⟩
  obtain ⟨b2, e2⟩ : ∃ q, inR n 3 12 = q := ⟨_, rfl⟩
  obtain ⟨b3, e3⟩ : ∃ q, inR bl 1 96 = q := ⟨_, rfl⟩
  have hb2 : b2 = true → n ≤ 12 := by intro e; rw [← e2] at e; have := inR_iff.1 e; omega
  rw [e1, e2, e3] at hm
  rw [e1] at h1
  rw [e2] at h2
  rw [e3] at h3
  have H := Lib.hid hm
  obtain ⟨R, hR⟩ : ∃ R, rightS (scr ⟨num, A, n, c, sz, bl, D, m, d, acts⟩) = R := ⟨_, rfl⟩
  rw [hR] at H ⊢
  obtain ⟨W, hW⟩ : ∃ W, w.alloc (.cells #[.int .i64 num, .slice A n c, .int .i64 bl, .slice D m d] 25) = W := ⟨_, rfl⟩
  obtain ⟨y, hy⟩ : ∃ y, w.heap.size = y := ⟨_, rfl⟩
  rw [hW] at hbox hg0
  rw [hy] at hbox
  have BX := Lib.hid hbox; have N0 := Lib.hid hg0
  have k0 := hbox.cell 0; have k1 := hbox.cell 1; have k2 := hbox.cell 2; have k3 := hbox.cell 3
  clear e1 e2 e3 hm hR hbox hg0 h
  rcases b1 with _ | _
  · go_enter Try.func20, Try.ntmps20
    go_wp2_with (first | (go_at_call 39; (with_reducible refine (h1.out _).mono ?_); rintro e w' ⟨rfl, rfl⟩) | (go_at_call 39; (with_reducible refine (h2.out _).mono ?_); rintro e w' ⟨rfl, rfl⟩) | (go_at_call 39; (with_reducible refine (h3.out _).mono ?_); rintro e w' ⟨rfl, rfl⟩))
    go_ret
    exact ⟨by rw [H.out]; rfl, N0.out⟩
  rcases b2 with _ | _
  · go_enter Try.func20, Try.ntmps20
    go_wp2_with (first | (go_at_call 39; (with_reducible refine (h1.out _).mono ?_); rintro e w' ⟨rfl, rfl⟩) | (go_at_call 39; (with_reducible refine (h2.out _).mono ?_); rintro e w' ⟨rfl, rfl⟩) | (go_at_call 39; (with_reducible refine (h3.out _).mono ?_); rintro e w' ⟨rfl, rfl⟩))
    go_ret
    exact ⟨by rw [H.out]; rfl, N0.out⟩
  rcases b3 with _ | _
  · go_enter Try.func20, Try.ntmps20
    go_wp2_with (first | (go_at_call 39; (with_reducible refine (h1.out _).mono ?_); rintro e w' ⟨rfl, rfl⟩) | (go_at_call 39; (with_reducible refine (h2.out _).mono ?_); rintro e w' ⟨rfl, rfl⟩) | (go_at_call 39; (with_reducible refine (h3.out _).mono ?_); rintro e w' ⟨rfl, rfl⟩))
    go_ret
    exact ⟨by rw [H.out]; rfl, N0.out⟩
  rcases (show 120 < m ∨ m ≤ 120 by omega) with hm1 | hm1
  · have hm2 : (120 : Int) < (m : Int) := by omega
    have HF := Lib.hid (show R = false by rw [H.out, decide_eq_false (show ¬ m ≤ 120 by omega)]; simp)
    clear H
    go_enter Try.func20, Try.ntmps20
    go_wp2_with (first | (go_at_call 39; (with_reducible refine (h1.out _).mono ?_); rintro e w' ⟨rfl, rfl⟩) | (go_at_call 39; (with_reducible refine (h2.out _).mono ?_); rintro e w' ⟨rfl, rfl⟩) | (go_at_call 39; (with_reducible refine (h3.out _).mono ?_); rintro e w' ⟨rfl, rfl⟩))
    go_ret
    exact ⟨by rw [HF.out]; rfl, N0.out⟩
  have hn12 := hb2 rfl
  have HR := Lib.hid (show R = (sz.all (fun n => inR n 160 4096) && acts.all rightA) by rw [H.out, decide_eq_true hm1]; simp)
  have hm2 : decide ((120 : Int) < (m : Int)) = false := by simp; omega
  have HZL := Lib.hid hz; have HAL := Lib.hid ha
  have S0 := Lib.hid (HS.out.nw N0.out hB)
  have hBW : B ≤ W.heap.size := Nat.le_trans hB N0.out.size
  clear H hb2 hz ha HS
  go_enter Try.func20, Try.ntmps20
  go_wp2_with (first | (go_at_call 39; (with_reducible refine (h1.out _).mono ?_); rintro e w' ⟨rfl, rfl⟩) | (go_at_call 39; (with_reducible refine (h2.out _).mono ?_); rintro e w' ⟨rfl, rfl⟩) | (go_at_call 39; (with_reducible refine (h3.out _).mono ?_); rintro e w' ⟨rfl, rfl⟩))
  clear h1 h2 h3
  go_loopw [6] (fun i wr => ∃ k : Nat, k ≤ n ∧ i = .int .i64 k ∧ Hid ((sz.take k).all (fun n => inR n 160 4096) = true) ∧ Nw W wr) (fun i _ => n - (intOf i).toNat)
  case atStart => exact ⟨0, Nat.zero_le _, rfl, Lib.hid rfl, Nw.refl _⟩
  case round =>
    obtain ⟨k, hk, rfl, hall, hnw0⟩ := hrel
    have k1 := (BX.out.nw hnw0).cell 1
    by_cases hlt : k < n
    · obtain ⟨b, off, rfl, hzl, hc⟩ := (S0.out.z.nw hnw0 hBW).atI hlt
      have hlt' : (k : Int) < (n : Int) := by omega
      have hx : sz[k]? = some sz[k] := List.getElem?_eq_getElem hzl
      obtain ⟨v, hv⟩ : ∃ v, sz[k] = v := ⟨_, rfl⟩
      rw [hv] at hx hc
      have HM := Lib.hid (fun w' => within2_any v 160 4096 w')
      obtain ⟨q, hq⟩ : ∃ q, inR v 160 4096 = q := ⟨_, rfl⟩
      rw [hq] at HM
      have HQ := Lib.hid hq; have HX := Lib.hid hx
      clear hx hv hq
      rcases q with _ | _
      · have HF := Lib.hid (show R = false by rw [HR.out, all_false HX.out HQ.out]; simp)
        clear HR
        go_wp2_with (first | (go_at_call 39; (with_reducible refine (HM.out _).mono ?_); rintro e w' ⟨rfl, rfl⟩))
        go_ret
        exact ⟨by rw [HF.out]; rfl, gb_trans N0.out hnw0⟩
      · go_wp2_with (first | (go_at_call 39; (with_reducible refine (HM.out _).mono ?_); rintro e w' ⟨rfl, rfl⟩))
        go_roundw
        case rel => exact ⟨k + 1, by omega, by go_num, Lib.hid (by rw [all_step HX.out, hall.out, HQ.out]; rfl), hnw0⟩
        case measure => simp only [intOf]; omega
    · have hkn : k = n := by omega
      subst hkn
      have hd : decide ((k : Int) < (k : Int)) = false := by simp
      have HF := Lib.hid (show R = acts.all rightA by
        have e := hall.out
        rw [List.take_of_length_le (by rw [HZL.out]; exact Nat.le_refl _)] at e
        rw [HR.out, e]; simp)
      clear HR hall
      go_wp2_with fail
      go_loopw [8] (fun i wr => ∃ k : Nat, k ≤ m ∧ i = .int .i64 k ∧ Hid ((acts.take k).all rightA = true) ∧ Nw W wr) (fun i _ => m - (intOf i).toNat)
      case atStart => exact ⟨0, Nat.zero_le _, rfl, Lib.hid rfl, hnw0⟩
      case round =>
        obtain ⟨j, hj, rfl, hall, hnw⟩ := hrel
        have k3 := (BX.out.nw hnw).cell 3
        by_cases hlt : j < m
        · obtain ⟨_, b, off, x, rfl, hbB, hx, hc⟩ := S0.out.a.atL actC_len (by decide) hlt
          have hlt' : (j : Int) < (m : Int) := by omega
          have HC := Lib.hid (fun w' (k : Nw W w') => show ∀ j' u, (actC x)[j']? = some u → w'.cell? ⟨b, off + j * 69 + j', none⟩ = some u from fun j' u hu => (World.cell?_of_block (k.block b (by omega) (by simp))).trans (hc j' u hu))
          have hok := S0.out.ok x (List.mem_of_getElem? hx)
          have HX := Lib.hid hx
          have HB := Lib.hid (fun w' => ract_any hok w')
          unfold Ret at HB
          obtain ⟨q, hq⟩ : ∃ q, rightA x = q := ⟨_, rfl⟩
          rw [hq] at HB
          have HQ := Lib.hid hq
          clear hc hx hq
          rcases q with _ | _
          · have HG := Lib.hid (show R = false by rw [HF.out, all_false HX.out HQ.out])
            clear HF
            go_wp2_with (first | (go_at_call 40; (with_reducible refine (HB.out _).mono ?_); rintro e w3 ⟨rfl, n3⟩) | ((with_reducible refine wpList_load_agg 44 _ (by with_unfolding_all exact rfl) (by with_unfolding_all exact rfl) (by with_unfolding_all exact rfl) (actC x) (HC.out _ hnw) _ Try.underlying44 (by with_unfolding_all exact rfl) (i44' x) ?_)))
            go_ret
            exact ⟨by rw [HG.out]; rfl, gb_trans N0.out (gb_trans hnw n3)⟩
          · go_wp2_with (first | (go_at_call 40; (with_reducible refine (HB.out _).mono ?_); rintro e w3 ⟨rfl, n3⟩) | ((with_reducible refine wpList_load_agg 44 _ (by with_unfolding_all exact rfl) (by with_unfolding_all exact rfl) (by with_unfolding_all exact rfl) (actC x) (HC.out _ hnw) _ Try.underlying44 (by with_unfolding_all exact rfl) (i44' x) ?_)))
            go_roundw
            case rel => exact ⟨j + 1, by omega, by go_num, Lib.hid (by rw [all_step HX.out, hall.out, HQ.out]; rfl), gb_trans hnw n3⟩
            case measure => simp only [intOf]; omega
        · have hje : j = m := by omega
          subst hje
          have hd2 : decide ((j : Int) < (j : Int)) = false := by simp
          have HG := Lib.hid (show R = true by
            have e := hall.out
            rw [List.take_of_length_le (by rw [HAL.out]; exact Nat.le_refl _)] at e
            rw [HF.out, e])
          clear HF hall
          go_wp2
          go_ret
          exact ⟨by rw [HG.out]; rfl, gb_trans N0.out hnw⟩
end Go.Proofs.Ytmcgfnfhpcddlaa

