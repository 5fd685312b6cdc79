/- What the reference's Bytes returns, for all scripts. -/
import Derived.Test.YtmcgfnfhpcddlaaKB
set_option linter.unusedVariables false
set_option linter.unusedSimpArgs false
/- What the reference's Bytes returns, for all scripts. -/
namespace Go.Proofs.Ytmcgfnfhpcddlaa
open Go.RowKit Go.BW

set_option maxRecDepth 100000 in
set_option maxHeartbeats 8000000 in
theorem rright_any {w : World} {B : Nat} {x : Sc} (h : SOk w B x) (hB : B ≤ w.heap.size) : Calls Try.prog 20 #[sv x] w (Ret (.bool (rightS (scr x))) w) := by
  have h1 := Lib.hid (fun w' => within2_any x.num 0 4294967295 w')
  have h2 := Lib.hid (fun w' => within2_any (x.n : Int) 3 12 w')
  have h3 := Lib.hid (fun w' => within2_any x.bl 1 96 w')
  have hz := h.zl; have ha := h.al
  have hm : rightS (scr x) = (inR x.num 0 4294967295 && inR x.n 3 12 && inR x.bl 1 96 && decide (x.m ≤ 120) && x.sz.all (fun n => inR n 160 4096) && x.acts.all rightA) := by rw [← hz, ← ha]; rfl
  have HS := Lib.hid h
  have hbox := Obj1.new w 25 #[.int .i64 x.num, .slice x.A x.n x.c, .int .i64 x.bl, .slice x.D x.m x.d]
  have hg0 := World.grownBy_alloc w (.cells #[.int .i64 x.num, .slice x.A x.n x.c, .int .i64 x.bl, .slice x.D x.m x.d] 25) none
  unfold sv
  obtain ⟨num, A, n, c, sz, bl, D, m, d, acts⟩ := x
  simp only at h1 h2 h3 hm hbox hg0 hz ha ⊢
  obtain ⟨b1, e1⟩ : ∃ q, inR num 0 4294967295 = q := ⟨_, rfl⟩
  obtain ⟨b2, e2⟩ : ∃ q, inR n 3 12 = q := ⟨_, rfl⟩
  obtain ⟨b3, e3⟩ : ∃ q, inR bl 1 96 = q := ⟨_, rfl⟩
  have hb2 : b2 = true → n ≤ 12 := by intro e; rw [← e2] at e; have := inR_iff.1 e; omega
  rw [e1, e2, e3] at hm
  rw [e1] at h1
  rw [e2] at h2
  rw [e3] at h3
  have H := Lib.hid hm
  obtain ⟨R, hR⟩ : ∃ R, rightS (scr ⟨num, A, n, c, sz, bl, D, m, d, acts⟩) = R := ⟨_, rfl⟩
  rw [hR] at H ⊢
  obtain ⟨W, hW⟩ : ∃ W, w.alloc (.cells #[.int .i64 num, .slice A n c, .int .i64 bl, .slice D m d] 25) = W := ⟨_, rfl⟩
  obtain ⟨y, hy⟩ : ∃ y, w.heap.size = y := ⟨_, rfl⟩
  rw [hW] at hbox hg0
  rw [hy] at hbox
  have BX := Lib.hid hbox; have N0 := Lib.hid hg0
  have k0 := hbox.cell 0; have k1 := hbox.cell 1; have k2 := hbox.cell 2; have k3 := hbox.cell 3
  clear e1 e2 e3 hm hR hbox hg0 h
  rcases b1 with _ | _
  · go_enter Try.func20, Try.ntmps20
    go_wp2_with (first | (go_at_call 39; (with_reducible refine (h1.out _).mono ?_); rintro e w' ⟨rfl, rfl⟩) | (go_at_call 39; (with_reducible refine (h2.out _).mono ?_); rintro e w' ⟨rfl, rfl⟩) | (go_at_call 39; (with_reducible refine (h3.out _).mono ?_); rintro e w' ⟨rfl, rfl⟩))
    go_ret
    exact ⟨by rw [H.out]; rfl, N0.out⟩
  rcases b2 with _ | _
  · go_enter Try.func20, Try.ntmps20
    go_wp2_with (first | (go_at_call 39; (with_reducible refine (h1.out _).mono ?_); rintro e w' ⟨rfl, rfl⟩) | (go_at_call 39; (with_reducible refine (h2.out _).mono ?_); rintro e w' ⟨rfl, rfl⟩) | (go_at_call 39; (with_reducible refine (h3.out _).mono ?_); rintro e w' ⟨rfl, rfl⟩))
    go_ret
    exact ⟨by rw [H.out]; rfl, N0.out⟩
  rcases b3 with _ | _
  · go_enter Try.func20, Try.ntmps20
    go_wp2_with (first | (go_at_call 39; (with_reducible refine (h1.out _).mono ?_); rintro e w' ⟨rfl, rfl⟩) | (go_at_call 39; (with_reducible refine (h2.out _).mono ?_); rintro e w' ⟨rfl, rfl⟩) | (go_at_call 39; (with_reducible refine (h3.out _).mono ?_); rintro e w' ⟨rfl, rfl⟩))
    go_ret
    exact ⟨by rw [H.out]; rfl, N0.out⟩
  rcases (show 120 < m ∨ m ≤ 120 by omega) with hm1 | hm1
  · have hm2 : (120 : Int) < (m : Int) := by omega
    have HF := Lib.hid (show R = false by rw [H.out, decide_eq_false (show ¬ m ≤ 120 by omega)]; simp)
    clear H
    go_enter Try.func20, Try.ntmps20
    go_wp2_with (first | (go_at_call 39; (with_reducible refine (h1.out _).mono ?_); rintro e w' ⟨rfl, rfl⟩) | (go_at_call 39; (with_reducible refine (h2.out _).mono ?_); rintro e w' ⟨rfl, rfl⟩) | (go_at_call 39; (with_reducible refine (h3.out _).mono ?_); rintro e w' ⟨rfl, rfl⟩))
    go_ret
    exact ⟨by rw [HF.out]; rfl, N0.out⟩
  have hn12 := hb2 rfl
  have HR := Lib.hid (show R = (sz.all (fun n => inR n 160 4096) && acts.all rightA) by rw [H.out, decide_eq_true hm1]; simp)
  have hm2 : decide ((120 : Int) < (m : Int)) = false := by simp; omega
  have HZL := Lib.hid hz; have HAL := Lib.hid ha
  have S0 := Lib.hid (HS.out.nw N0.out hB)
  have hBW : B ≤ W.heap.size := Nat.le_trans hB N0.out.size
  clear H hb2 hz ha HS
  go_enter Try.func20, Try.ntmps20
  go_wp2_with (first | (go_at_call 39; (with_reducible refine (h1.out _).mono ?_); rintro e w' ⟨rfl, rfl⟩) | (go_at_call 39; (with_reducible refine (h2.out _).mono ?_); rintro e w' ⟨rfl, rfl⟩) | (go_at_call 39; (with_reducible refine (h3.out _).mono ?_); rintro e w' ⟨rfl, rfl⟩))
  clear h1 h2 h3
  go_loopw [6] (fun i wr => ∃ k : Nat, k ≤ n ∧ i = .int .i64 k ∧ Hid ((sz.take k).all (fun n => inR n 160 4096) = true) ∧ Nw W wr) (fun i _ => n - (intOf i).toNat)
  case atStart => exact ⟨0, Nat.zero_le _, rfl, Lib.hid rfl, Nw.refl _⟩
  case round =>
    obtain ⟨k, hk, rfl, hall, hnw0⟩ := hrel
    have k1 := (BX.out.nw hnw0).cell 1
    by_cases hlt : k < n
    · obtain ⟨b, off, rfl, hzl, hc⟩ := (S0.out.z.nw hnw0 hBW).atI hlt
      have hlt' : (k : Int) < (n : Int) := by omega
      have hx : sz[k]? = some sz[k] := List.getElem?_eq_getElem hzl
      obtain ⟨v, hv⟩ : ∃ v, sz[k] = v := ⟨_, rfl⟩
      rw [hv] at hx hc
      have HM := Lib.hid (fun w' => within2_any v 160 4096 w')
      obtain ⟨q, hq⟩ : ∃ q, inR v 160 4096 = q := ⟨_, rfl⟩
      rw [hq] at HM
      have HQ := Lib.hid hq; have HX := Lib.hid hx
      clear hx hv hq
      rcases q with _ | _
      · have HF := Lib.hid (show R = false by rw [HR.out, all_false HX.out HQ.out]; simp)
        clear HR
        go_wp2_with (first | (go_at_call 39; (with_reducible refine (HM.out _).mono ?_); rintro e w' ⟨rfl, rfl⟩))
        go_ret
        exact ⟨by rw [HF.out]; rfl, gb_trans N0.out hnw0⟩
      · go_wp2_with (first | (go_at_call 39; (with_reducible refine (HM.out _).mono ?_); rintro e w' ⟨rfl, rfl⟩))
        go_roundw
        case rel => exact ⟨k + 1, by omega, by go_num, Lib.hid (by rw [all_step HX.out, hall.out, HQ.out]; rfl), hnw0⟩
        case measure => simp only [intOf]; omega
    · have hkn : k = n := by omega
      subst hkn
      have hd : decide ((k : Int) < (k : Int)) = false := by simp
      have HF := Lib.hid (show R = acts.all rightA by
        have e := hall.out
        rw [List.take_of_length_le (by rw [HZL.out]; exact Nat.le_refl _)] at e
        rw [HR.out, e]; simp)
      clear HR hall
      go_wp2_with fail
      go_loopw [8] (fun i wr => ∃ k : Nat, k ≤ m ∧ i = .int .i64 k ∧ Hid ((acts.take k).all rightA = true) ∧ Nw W wr) (fun i _ => m - (intOf i).toNat)
      case atStart => exact ⟨0, Nat.zero_le _, rfl, Lib.hid rfl, hnw0⟩
      case round =>
        obtain ⟨j, hj, rfl, hall, hnw⟩ := hrel
        have k3 := (BX.out.nw hnw).cell 3
        by_cases hlt : j < m
        · obtain ⟨_, b, off, x, rfl, hbB, hx, hc⟩ := S0.out.a.atL actC_len (by decide) hlt
          have hlt' : (j : Int) < (m : Int) := by omega
          have HC := Lib.hid (fun w' (k : Nw W w') => show ∀ j' u, (actC x)[j']? = some u → w'.cell? ⟨b, off + j * 69 + j', none⟩ = some u from fun j' u hu => (World.cell?_of_block (k.block b (by omega) (by simp))).trans (hc j' u hu))
          have hok := S0.out.ok x (List.mem_of_getElem? hx)
          have HX := Lib.hid hx
          have HB := Lib.hid (fun w' => ract_any hok w')
          unfold Ret at HB
          obtain ⟨q, hq⟩ : ∃ q, rightA x = q := ⟨_, rfl⟩
          rw [hq] at HB
          have HQ := Lib.hid hq
          clear hc hx hq
          rcases q with _ | _
          · have HG := Lib.hid (show R = false by rw [HF.out, all_false HX.out HQ.out])
            clear HF
            go_wp2_with (first | (go_at_call 40; (with_reducible refine (HB.out _).mono ?_); rintro e w3 ⟨rfl, n3⟩) | ((with_reducible refine wpList_load_agg 44 _ (by with_unfolding_all exact rfl) (by with_unfolding_all exact rfl) (by with_unfolding_all exact rfl) (actC x) (HC.out _ hnw) _ Try.underlying44 (by with_unfolding_all exact rfl) (i44' x) ?_)))
            go_ret
            exact ⟨by rw [HG.out]; rfl, gb_trans N0.out (gb_trans hnw n3)⟩
          · go_wp2_with (first | (go_at_call 40; (with_reducible refine (HB.out _).mono ?_); rintro e w3 ⟨rfl, n3⟩) | ((with_reducible refine wpList_load_agg 44 _ (by with_unfolding_all exact rfl) (by with_unfolding_all exact rfl) (by with_unfolding_all exact rfl) (actC x) (HC.out _ hnw) _ Try.underlying44 (by with_unfolding_all exact rfl) (i44' x) ?_)))
            go_roundw
            case rel => exact ⟨j + 1, by omega, by go_num, Lib.hid (by rw [all_step HX.out, hall.out, HQ.out]; rfl), gb_trans hnw n3⟩
            case measure => simp only [intOf]; omega
        · have hje : j = m := by omega
          subst hje
          have hd2 : decide ((j : Int) < (j : Int)) = false := by simp
          have HG := Lib.hid (show R = true by
            have e := hall.out
            rw [List.take_of_length_le (by rw [HAL.out]; exact Nat.le_refl _)] at e
            rw [HF.out, e])
          clear HF hall
          go_wp2
          go_ret
          exact ⟨by rw [HG.out]; rfl, gb_trans N0.out hnw⟩
end Go.Proofs.Ytmcgfnfhpcddlaa


/- What the reference's Bytes returns, for all scripts. -/
namespace Go.Proofs.Ytmcgfnfhpcddlaa
open Go.RowKit Go.BW

def RBytesPost (s : Scr) (w : World) (e : Ending) (w' : World) : Prop := e = .returned (.tuple #[str (bytesO s), .int .i64 (bytesE s)]) ∧ Nw w w'
set_option maxRecDepth 100000 in
set_option maxHeartbeats 8000000 in
theorem rbytes_any {w : World} {B : Nat} {x : Sc} (h : SOk w B x) (hB : B ≤ w.heap.size) : Calls Try.prog 18 #[sv x] w (RBytesPost (scr x) w) := by
  have hbox := Obj1.new w 25 #[.int .i64 x.num, .slice x.A x.n x.c, .int .i64 x.bl, .slice x.D x.m x.d]
  have hg0 := World.grownBy_alloc w (.cells #[.int .i64 x.num, .slice x.A x.n x.c, .int .i64 x.bl, .slice x.D x.m x.d] 25) none
  have HRI := Lib.hid (fun w' (k : Nw w w') => rright_any (h.nw k hB) (Nat.le_trans hB k.size))
  have hz := h.zl; have ha := h.al
  obtain ⟨R, hR⟩ : ∃ R, rightS (scr x) = R := ⟨_, rfl⟩
  rw [hR] at HRI
  unfold Ret sv at HRI
  unfold sv RBytesPost bytesE bytesO str
  rw [hR]
  have hp := fun e : R = true => rightS_parts (hR.trans e)
  have hP : bytesS (scr x) = headB (scr x) ++ (x.sz.map (fun n => be 2 n.toNat)).flatten ++ [b8 x.bl, b8 x.acts.length] ++ (x.acts.map actB).flatten := rfl
  have hH : headB (scr x) = [66, 87] ++ be 4 x.num.toNat ++ [b8 x.n] := by rw [← hz]; rfl
  have hok := h.ok
  have HS := Lib.hid h
  obtain ⟨num, A, n, c, sz, bl, D, m, d, acts⟩ := x
  simp only [scr] at hbox hg0 hz ha HRI hp hP hH hok ⊢
  obtain ⟨W, hW⟩ : ∃ W, w.alloc (.cells #[.int .i64 num, .slice A n c, .int .i64 bl, .slice D m d] 25) = W := ⟨_, rfl⟩
  obtain ⟨y, hy⟩ : ∃ y, w.heap.size = y := ⟨_, rfl⟩
  rw [hW] at hbox hg0
  rw [hy] at hbox
  have BX := Lib.hid hbox; have N0 := Lib.hid hg0
  clear hbox hg0 h
  rcases R with _ | _
  · go_enter Try.func18, Try.ntmps18
    go_wp2_with (first | ((with_reducible refine (HRI.out _ N0.out).mono ?_); rintro e w1 ⟨rfl, k1⟩; have B1 := Lib.hid (BX.out.nw k1); have N1 := Lib.hid (gb_trans N0.out k1)) | ((with_reducible refine wpList_load_obj 25 _ (by with_unfolding_all exact rfl) (by with_unfolding_all exact rfl) (by with_unfolding_all exact rfl) BX.out _ Try.underlying25 (by with_unfolding_all exact rfl) (by kernel_rfl) ?_)))
    go_ret2
    exact ⟨rfl, N1.out⟩
  obtain ⟨q1, q2, q3, q4, q5, q6⟩ := hp rfl
  have HQ := Lib.hid q5; have HQ6 := Lib.hid q6; have HOK := Lib.hid hok
  obtain ⟨S, hS⟩ : ∃ S : Scr, S = ⟨num, sz, bl, acts⟩ := ⟨_, rfl⟩
  rw [← hS] at hP hH ⊢
  have HP := Lib.hid hP; have HH := Lib.hid hH; have HZL := Lib.hid hz; have HAL := Lib.hid ha
  have hn12 : n ≤ 12 := by omega
  have hm120 : m ≤ 120 := by omega
  clear hp hP hH hok q5 q6 hR hz ha hS
  go_enter Try.func18, Try.ntmps18
  go_upto_region 4 with (first | ((with_reducible refine (HRI.out _ N0.out).mono ?_); rintro e w1 ⟨rfl, k1⟩; have B1 := Lib.hid (BX.out.nw k1); have N1 := Lib.hid (gb_trans N0.out k1)) | ((with_reducible refine wpList_load_obj 25 _ (by with_unfolding_all exact rfl) (by with_unfolding_all exact rfl) (by with_unfolding_all exact rfl) BX.out _ Try.underlying25 (by with_unfolding_all exact rfl) (by kernel_rfl) ?_)))
  have HN4 := Lib.hid (fun w' => numk num (by omega) (by omega) 4 (by decide) (K := 4) rfl w')
  have HN1 := Lib.hid (fun w' => num1 (n : Int) (by omega) (by omega) w')
  have hw1 : IntKind.u64.wrap num = num := by rw [IntKind.wrap_u64]; omega
  have hw2 : IntKind.u64.wrap (n : Int) = (n : Int) := by rw [IntKind.wrap_u64]; omega
  have f1 : ∀ w', Nw w1 w' → w'.cell? ⟨y, 0, none⟩ = some (.int .i64 num) := fun w' k => (B1.out.nw k).cell 0
  have f2 : ∀ w', Nw w1 w' → w'.cell? ⟨y, 1, none⟩ = some (.slice A n c) := fun w' k => (B1.out.nw k).cell 1
  have hl4 := be_le num.toNat 4
  obtain ⟨b4, hb4⟩ : ∃ b, be 4 num.toNat = b := ⟨_, rfl⟩
  rw [hb4] at HN4 hl4
  have HB4 := Lib.hid hb4
  clear hb4
  refine wp_region_held (S := (fun w' => Nw w1 w')) (by kernel_rfl) ?_
  change wpAnyH _ _ _ _ _ _ _ _ (World.drew w1)
  refine held_seg' (l := [0, 1, 2, 5, 6, 7, 8]) (fuel := 5) rfl (by kernel_rfl) (by kernel_rfl) (by simp only [List.filterMap_cons, List.filterMap_nil, List.getElem?_toArray, List.getElem?_cons_succ, List.getElem?_cons_zero]; rfl) (fun _ _ d _ _ h => by cases d <;> exact h) (gb_drew (Nw.refl w1)) ?_
  iterate 7 (refine wpYield_step rfl (fun K hK => ?_)
             apply Exists.intro
             refine ⟨fun w' hw' => ?_, ?_⟩
             · (go_simp; try with_reducible rfl)
             go_simp
             refine hK _ ?_
             clear hK K)
  refine wpYield_nil ?_
  refine held_eff 3 rfl (by kernel_rfl) rfl (fun K hK => ?_)
  go_simp
  refine (HN4.out _).mono ?_
  rintro e w2 ⟨rfl, k2⟩
  have K2 := Lib.hid (gb_trans (gb_drew (Nw.refl w1)) k2)
  refine hK _ _ ⟨K2.out, ?_⟩
  clear hK K
  refine held_seg' (l := [4]) (fuel := 3) rfl (by kernel_rfl) (by kernel_rfl) (by simp only [List.filterMap_cons, List.filterMap_nil, List.getElem?_toArray, List.getElem?_cons_succ, List.getElem?_cons_zero]; rfl) (fun _ _ d _ _ h => by cases d <;> exact h) K2.out ?_
  go_simp
  refine wpYield_str_add 9 9 _ _ rfl rfl [66, 87] b4 rfl rfl (by simp only [List.length_cons, List.length_nil]; omega) rfl ?_
  refine wpYield_nil ?_
  refine held_eff 9 rfl (by kernel_rfl) rfl (fun K hK => ?_)
  go_simp
  refine (HN1.out _).mono ?_
  rintro e w3 ⟨rfl, k3⟩
  have K3 := Lib.hid (gb_trans K2.out k3)
  refine hK _ _ ⟨K3.out, ?_⟩
  clear hK K
  refine held_seg' (l := [10, 11]) (fuel := 0) rfl (by kernel_rfl) (by kernel_rfl) (by simp only [List.filterMap_cons, List.filterMap_nil, List.getElem?_toArray, List.getElem?_cons_succ, List.getElem?_cons_zero]; rfl) (fun _ _ d _ _ h => by cases d <;> exact h) K3.out ?_
  go_simp
  refine wpYield_str_add 9 9 _ _ rfl rfl ([66, 87] ++ b4) [b8 (n : Int)] rfl rfl (by simp only [List.length_append, List.length_cons, List.length_nil]; omega) rfl ?_
  (refine wpYield_step rfl (fun K hK => ?_)
   apply Exists.intro
   refine ⟨fun w' hw' => ?_, ?_⟩
   · (go_simp; try with_reducible rfl)
   go_simp
   refine hK _ ?_
   clear hK K)
  refine wpYield_nil ?_
  refine wpAnyH_done (by kernel_rfl) ?_ _
  have hh : 66 :: 87 :: (b4 ++ [b8 (n : Int)]) = headB S := by rw [HH.out, HB4.out]; rfl
  rw [hh]
  have B3 := Lib.hid (B1.out.nw K3.out); have N3 := Lib.hid (gb_trans N1.out K3.out)
  have hlh : (headB S).length ≤ 7 := by
    rw [HH.out, List.length_append, List.length_append, be_len]; simp
  have HLH := Lib.hid hlh
  clear f1 f2 hh hlh k2 k3 K2 K3
  have k1 := B3.out.cell 1
  go_wp2_with fail
  go_loopw [5, 6] (fun b i wr => ∃ (k : Nat) (L : List UInt8), k ≤ n ∧ i = .int .i64 k ∧ L.length ≤ 7 + 2 * k ∧ b = .string ⟨L.toArray⟩ ∧ L = headB S ++ ((sz.take k).map (fun n => be 2 n.toNat)).flatten ∧ Obj1 wr y 25 #[.int .i64 num, .slice A n c, .int .i64 bl, .slice D m d] ∧ Nw w wr) (fun _ i _ => n - (intOf i).toNat)
  case atStart => exact ⟨0, headB S, Nat.zero_le _, rfl, HLH.out, rfl, by simp, B3.out, N3.out⟩
  case round =>
    obtain ⟨k, L, hk, rfl, hL, rfl, hLe, hbx, hnw⟩ := hrel
    by_cases hlt : k < n
    · obtain ⟨b, off, rfl, hzl', hc⟩ := (HS.out.z.nw hnw hB).atI hlt
      have hlt' : (k : Int) < (n : Int) := by omega
      have hx : sz[k]? = some sz[k] := List.getElem?_eq_getElem hzl'
      obtain ⟨z, hz⟩ : ∃ v, sz[k] = v := ⟨_, rfl⟩
      rw [hz] at hx hc
      have hzr := HQ.out z (List.mem_of_getElem? hx)
      have HX := Lib.hid (flat_step (f := fun n : Int => be 2 n.toNat) hx)
      have hzm : z % 18446744073709551616 = z := by omega
      have HNK := Lib.hid (fun w' => numk z (by omega) (by omega) 2 (by decide) (K := 2) rfl w')
      have hl2 := be_le z.toNat 2
      obtain ⟨b2, hb2⟩ : ∃ q, be 2 z.toNat = q := ⟨_, rfl⟩
      rw [hb2] at HNK hl2
      have HB2 := Lib.hid hb2; have HL := Lib.hid hLe
      have BR := Lib.hid hbx; have NR := Lib.hid hnw
      have q1 := hbx.cell 1
      clear hx hz hbx hnw hzl' hb2 hLe
      go_wp2_with (first | ((with_reducible refine (HNK.out _).mono ?_); rintro e w4 ⟨rfl, k4⟩) | (refine wpList_str_add 9 9 _ _ rfl rfl L b2 rfl rfl (by omega) rfl ?_))
      go_roundw
      case rel => exact ⟨k + 1, L ++ b2, by omega, by go_num, by rw [List.length_append]; omega, rfl, (by rw [HX.out, ← List.append_assoc, ← HL.out, HB2.out]), BR.out.nw k4, gb_trans NR.out k4⟩
      case measure => simp only [intOf]; omega
    · have hkn : k = n := by omega
      subst hkn
      have hd : decide ((k : Int) < (k : Int)) = false := by simp
      rw [List.take_of_length_le (by rw [HZL.out]; exact Nat.le_refl _)] at hLe
      have HL := Lib.hid hLe
      have B4 := Lib.hid hbx; have N4 := Lib.hid hnw
      have q1' := hbx.cell 1
      clear hLe hbx hnw
      go_upto_region 9 with fail
      have HN1 := Lib.hid (fun w' => num1 bl (by omega) (by omega) w')
      have HN2 := Lib.hid (fun w' => num1 (m : Int) (by omega) (by omega) w')
      have hw1 : IntKind.u64.wrap bl = bl := by rw [IntKind.wrap_u64]; omega
      have hw2 : IntKind.u64.wrap (m : Int) = (m : Int) := by rw [IntKind.wrap_u64]; omega
      have f2 : ∀ w', Nw wr w' → w'.cell? ⟨y, 2, none⟩ = some (.int .i64 bl) := fun w' k => (B4.out.nw k).cell 2
      have f3 : ∀ w', Nw wr w' → w'.cell? ⟨y, 3, none⟩ = some (.slice D m d) := fun w' k => (B4.out.nw k).cell 3
      refine wp_region_held (S := (fun w' => Nw wr w')) (by kernel_rfl) ?_
      change wpAnyH _ _ _ _ _ _ _ _ (World.drew wr)
      refine held_seg' (l := [0, 1, 2, 3, 6, 7, 8, 9]) (fuel := 5) rfl (by kernel_rfl) (by kernel_rfl) (by simp only [List.filterMap_cons, List.filterMap_nil, List.getElem?_toArray, List.getElem?_cons_succ, List.getElem?_cons_zero]; rfl) (fun _ _ d _ _ h => by cases d <;> exact h) (gb_drew (Nw.refl wr)) ?_
      iterate 8 (refine wpYield_step rfl (fun K hK => ?_)
                 apply Exists.intro
                 refine ⟨fun w' hw' => ?_, ?_⟩
                 · (go_simp; try with_reducible rfl)
                 go_simp
                 refine hK _ ?_
                 clear hK K)
      refine wpYield_nil ?_
      refine held_eff 4 rfl (by kernel_rfl) rfl (fun K hK => ?_)
      go_simp
      refine (HN1.out _).mono ?_
      rintro e w2 ⟨rfl, k2⟩
      have K2 := Lib.hid (gb_trans (gb_drew (Nw.refl wr)) k2)
      refine hK _ _ ⟨K2.out, ?_⟩
      clear hK K
      refine held_seg' (l := [5]) (fuel := 3) rfl (by kernel_rfl) (by kernel_rfl) (by simp only [List.filterMap_cons, List.filterMap_nil, List.getElem?_toArray, List.getElem?_cons_succ, List.getElem?_cons_zero]; rfl) (fun _ _ d _ _ h => by cases d <;> exact h) K2.out ?_
      go_simp
      refine wpYield_str_add 9 9 _ _ rfl rfl L [b8 bl] rfl rfl (by simp only [List.length_cons, List.length_nil]; omega) rfl ?_
      refine wpYield_nil ?_
      refine held_eff 10 rfl (by kernel_rfl) rfl (fun K hK => ?_)
      go_simp
      refine (HN2.out _).mono ?_
      rintro e w3 ⟨rfl, k3⟩
      have K3 := Lib.hid (gb_trans K2.out k3)
      refine hK _ _ ⟨K3.out, ?_⟩
      clear hK K
      refine held_seg' (l := [11, 12]) (fuel := 0) rfl (by kernel_rfl) (by kernel_rfl) (by simp only [List.filterMap_cons, List.filterMap_nil, List.getElem?_toArray, List.getElem?_cons_succ, List.getElem?_cons_zero]; rfl) (fun _ _ d _ _ h => by cases d <;> exact h) K3.out ?_
      go_simp
      refine wpYield_str_add 9 9 _ _ rfl rfl (L ++ [b8 bl]) [b8 (m : Int)] rfl rfl (by simp only [List.length_append, List.length_cons, List.length_nil]; omega) rfl ?_
      (refine wpYield_step rfl (fun K hK => ?_)
       apply Exists.intro
       refine ⟨fun w' hw' => ?_, ?_⟩
       · (go_simp; try with_reducible rfl)
       go_simp
       refine hK _ ?_
       clear hK K)
      refine wpYield_nil ?_
      refine wpAnyH_done (by kernel_rfl) ?_ _
      have hP9 := HP.out
      rw [← HL.out, HAL.out] at hP9
      have e9 : L ++ b8 bl :: [b8 (m : Int)] = L ++ [b8 bl, b8 (m : Int)] := rfl
      obtain ⟨F, hF⟩ : ∃ F, L ++ [b8 bl, b8 (m : Int)] = F := ⟨_, rfl⟩
      rw [hF] at hP9 ⊢
      have hFl : F.length ≤ 100 := by rw [← hF, List.length_append]; simp only [List.length_cons, List.length_nil]; omega
      have HPF := Lib.hid hP9; have HFL := Lib.hid hFl
      have B5 := Lib.hid (B4.out.nw K3.out); have N5 := Lib.hid (gb_trans N4.out K3.out)
      have q3 := B5.out.cell 3
      clear e9 hF hP9 hFl f2 f3 k2 k3 K2 K3 hw1 hw2 q1' HL HP
      go_wp2_with fail
      go_loopw [5, 7] (fun b i wr => ∃ (j : Nat) (L : List UInt8), j ≤ m ∧ i = .int .i64 j ∧ L.length ≤ 100 + 67 * j ∧ b = .string ⟨L.toArray⟩ ∧ L = F ++ ((acts.take j).map actB).flatten ∧ Obj1 wr y 25 #[.int .i64 num, .slice A k c, .int .i64 bl, .slice D m d] ∧ Nw w wr) (fun _ i _ => m - (intOf i).toNat)
      case atStart => exact ⟨0, F, Nat.zero_le _, rfl, HFL.out, rfl, by simp, B5.out, N5.out⟩
      case round =>
        obtain ⟨j, L, hj, rfl, hL, rfl, hLe, hbx, hnw⟩ := hrel
        by_cases hlt : j < m
        · obtain ⟨_, b, off, x, rfl, hbB, hx, hc⟩ := HS.out.a.atL actC_len (by decide) hlt
          have hlt' : (j : Int) < (m : Int) := by omega
          have HC := Lib.hid (fun w' (k : Nw w w') => show ∀ j' u, (actC x)[j']? = some u → w'.cell? ⟨b, off + j * 69 + j', none⟩ = some u from fun j' u hu => (World.cell?_of_block (k.block b (by omega) (by simp))).trans (hc j' u hu))
          have hra := HQ6.out x (List.mem_of_getElem? hx)
          have HA := Lib.hid (fun w' => actbytes_any hra (HOK.out x (List.mem_of_getElem? hx)) w')
          unfold Ret str at HA
          have hl6 : (actB x).length ≤ 67 := by
            have h1 := lenA_le x; have h2 := fillN_le x.s; have h3 := (HOK.out x (List.mem_of_getElem? hx)).s
            omega
          have HX := Lib.hid (flat_step (f := actB) hx)
          obtain ⟨b6, hb6⟩ : ∃ q, actB x = q := ⟨_, rfl⟩
          rw [hb6] at HA hl6
          have HB6 := Lib.hid hb6; have HL := Lib.hid hLe
          have BR := Lib.hid hbx; have NR := Lib.hid hnw
          have q3 := hbx.cell 3
          clear hc hx hbx hnw hra hb6 hLe
          go_wp2_with (first | ((with_reducible refine (HA.out _).mono ?_); rintro e w4 ⟨rfl, k4⟩) | (refine wpList_str_add 9 9 _ _ rfl rfl L b6 rfl rfl (by omega) rfl ?_) | ((with_reducible refine wpList_load_agg 44 _ (by with_unfolding_all exact rfl) (by with_unfolding_all exact rfl) (by with_unfolding_all exact rfl) (actC x) (HC.out _ NR.out) _ Try.underlying44 (by with_unfolding_all exact rfl) (i44' x) ?_)))
          go_roundw
          case rel => exact ⟨j + 1, L ++ b6, by omega, by go_num, by rw [List.length_append]; omega, rfl, (by rw [HX.out, ← List.append_assoc, ← HL.out, HB6.out]), BR.out.nw k4, gb_trans NR.out k4⟩
          case measure => simp only [intOf]; omega
        · have hje : j = m := by omega
          subst hje
          have hd2 : decide ((j : Int) < (j : Int)) = false := by simp
          rw [List.take_of_length_le (by rw [HAL.out]; exact Nat.le_refl _), ← HPF.out] at hLe
          have HL := Lib.hid hLe; have NR := Lib.hid hnw
          have q3 := hbx.cell 3
          clear hLe hbx hnw
          go_wp2
          go_ret2
          exact ⟨by rw [← HL.out]; rfl, NR.out⟩
end Go.Proofs.Ytmcgfnfhpcddlaa

