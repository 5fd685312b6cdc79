/- Scripts as values, and what script.Right returns; for all scripts. -/
import Derived.Test.YtmcgfnfhpcddlaaJE
import Derived.Lib.SlBytesConst
set_option linter.unusedVariables false
set_option linter.unusedSimpArgs false
/- Scripts as values, and what script.Right returns; for all scripts. -/
namespace Go.Proofs.Ytmcgfnfhpcddlaa
open Go.RowKit Go.BW

structure Sc where
  num : Int
  A : Option Addr
  n : Nat
  c : Nat
  sz : List Int
  bl : Int
  D : Option Addr
  m : Nat
  d : Nat
  acts : List Act
def sc (x : Sc) : List Value := [.int .i64 x.num, .slice x.A x.n x.c, .int .i64 x.bl, .slice x.D x.m x.d]
def sv (x : Sc) : Value := .agg #[.int .i64 x.num, .slice x.A x.n x.c, .int .i64 x.bl, .slice x.D x.m x.d]
def scr (x : Sc) : Scr := ⟨x.num, x.sz, x.bl, x.acts⟩
/-- its rows lie below B -/
structure SOk (w : World) (B : Nat) (x : Sc) : Prop where
  z : Rd w B 1 x.A x.n (x.sz.map iv)
  zc : x.n ≤ x.c
  zm : x.c ≤ maxLen
  a : Rd w B 69 x.D x.m (fl actC x.acts)
  ac : x.m ≤ x.d
  am : x.d ≤ maxLen
  ok : ∀ a ∈ x.acts, ActOk a
section
variable {w w' : World} {B B' : Nat} {x : Sc}
theorem SOk.nw (h : SOk w B x) (k : Nw w w') (hB : B ≤ w.heap.size) : SOk w' B x := ⟨h.z.nw k hB, h.zc, h.zm, h.a.nw k hB, h.ac, h.am, h.ok⟩
theorem SOk.more (h : SOk w B x) (hB : B ≤ B') : SOk w B' x := ⟨h.z.more hB, h.zc, h.zm, h.a.more hB, h.ac, h.am, h.ok⟩
theorem SOk.zl (h : SOk w B x) : x.sz.length = x.n := by have := h.z.1; simpa using this
theorem SOk.al (h : SOk w B x) : x.acts.length = x.m := h.a.lenL actC_len (by decide)
theorem SOk.scrOk (h : SOk w B x) : ScrOk (scr x) := ⟨h.ok⟩
theorem sc_one (num : Int) (A : Option Addr) (n c : Nat) (bl : Int) (D : Option Addr) (m d : Nat) : ∀ u ∈ [Value.int .i64 num, .slice A n c, .int .i64 bl, .slice D m d], u.oneCell' = true := by
  intro u hu; simp at hu; rcases hu with rfl | rfl | rfl | rfl <;> rfl
end
theorem all_step {α : Type} {p : α → Bool} {l : List α} {k : Nat} {x : α} (h : l[k]? = some x) : (l.take (k + 1)).all p = ((l.take k).all p && p x) := by
  obtain ⟨hk, rfl⟩ := List.getElem?_eq_some_iff.1 h
  rw [List.take_succ_eq_append_getElem hk, List.all_append]
  simp
theorem all_false {α : Type} {p : α → Bool} {l : List α} {k : Nat} {x : α} (h : l[k]? = some x) (hp : p x = false) : l.all p = false := by
  rw [List.all_eq_false]; exact ⟨x, List.mem_of_getElem? h, by simp [hp]⟩
theorem bare_len (a : Act) (h : a.s.length = 64) : (bareA a).s.length = 64 := by
  have hz : z64.length = 64 := by simp [z64]
  unfold bareA
  repeat' split
  all_goals first | exact h | exact hz
set_option maxRecDepth 100000 in
set_option maxHeartbeats 8000000 in
theorem right_any {w : World} {B : Nat} {x : Sc} (h : SOk w B x) (hB : B ≤ w.heap.size) : Calls Try.prog 15 #[sv x] w (Ret (.bool (rightS (scr x))) w) := by
  have h1 := Lib.hid (fun w' => within_any x.num 0 4294967295 w')
  have h2 := Lib.hid (fun w' => within_any (x.n : Int) 3 12 w')
  have h3 := Lib.hid (fun w' => within_any x.bl 1 96 w')
  have hz := h.zl; have ha := h.al
  have hm : rightS (scr x) = (inR x.num 0 4294967295 && inR x.n 3 12 && inR x.bl 1 96 && decide (x.m ≤ 120) && x.sz.all (fun n => inR n 160 4096) && x.acts.all rightA) := by rw [← hz, ← ha]; rfl
  have HS := Lib.hid h
  have hbox := Obj1.new w 25 #[.int .i64 x.num, .slice x.A x.n x.c, .int .i64 x.bl, .slice x.D x.m x.d]
  have hg0 := World.grownBy_alloc w (.cells #[.int .i64 x.num, .slice x.A x.n x.c, .int .i64 x.bl, .slice x.D x.m x.d] 25) none
  unfold sv
  obtain ⟨num, A, n, c, sz, bl, D, m, d, acts⟩ := x
  simp only at h1 h2 h3 hm hbox hg0 hz ha ⊢
  obtain ⟨b1, e1⟩ : ∃ q, inR num 0 4294967295 = q := ⟨_, rfl⟩
  obtain ⟨b2, e2⟩ : ∃ q, inR n 3 12 = q := ⟨_, rfl⟩
  obtain ⟨b3, e3⟩ : ∃ q, inR bl 1 96 = q := ⟨_, rfl⟩
  have hb2 : b2 = true → n ≤ 12 := by intro e; rw [← e2] at e; have := inR_iff.1 e; omega
  rw [e1, e2, e3] at hm
  rw [e1] at h1
  rw [e2] at h2
  rw [e3] at h3
  have H := Lib.hid hm
  obtain ⟨R, hR⟩ : ∃ R, rightS (scr ⟨num, A, n, c, sz, bl, D, m, d, acts⟩) = R := ⟨_, rfl⟩
  rw [hR] at H ⊢
  obtain ⟨W, hW⟩ : ∃ W, w.alloc (.cells #[.int .i64 num, .slice A n c, .int .i64 bl, .slice D m d] 25) = W := ⟨_, rfl⟩
  obtain ⟨y, hy⟩ : ∃ y, w.heap.size = y := ⟨_, rfl⟩
  rw [hW] at hbox hg0
  rw [hy] at hbox
  have BX := Lib.hid hbox; have N0 := Lib.hid hg0
  have k0 := hbox.cell 0; have k1 := hbox.cell 1; have k2 := hbox.cell 2; have k3 := hbox.cell 3
  clear e1 e2 e3 hm hR hbox hg0 h
  rcases b1 with _ | _
  · go_enter Try.func15, Try.ntmps15
    go_wp2_with (first | ((with_reducible refine (h1.out _).mono ?_); rintro e w' ⟨rfl, rfl⟩) | ((with_reducible refine (h2.out _).mono ?_); rintro e w' ⟨rfl, rfl⟩) | ((with_reducible refine (h3.out _).mono ?_); rintro e w' ⟨rfl, rfl⟩))
    go_ret
    exact ⟨by rw [H.out]; rfl, N0.out⟩
  rcases b2 with _ | _
  · go_enter Try.func15, Try.ntmps15
    go_wp2_with (first | ((with_reducible refine (h1.out _).mono ?_); rintro e w' ⟨rfl, rfl⟩) | ((with_reducible refine (h2.out _).mono ?_); rintro e w' ⟨rfl, rfl⟩) | ((with_reducible refine (h3.out _).mono ?_); rintro e w' ⟨rfl, rfl⟩))
    go_ret
    exact ⟨by rw [H.out]; rfl, N0.out⟩
  rcases b3 with _ | _
  · go_enter Try.func15, Try.ntmps15
    go_wp2_with (first | ((with_reducible refine (h1.out _).mono ?_); rintro e w' ⟨rfl, rfl⟩) | ((with_reducible refine (h2.out _).mono ?_); rintro e w' ⟨rfl, rfl⟩) | ((with_reducible refine (h3.out _).mono ?_); rintro e w' ⟨rfl, rfl⟩))
    go_ret
    exact ⟨by rw [H.out]; rfl, N0.out⟩
  rcases (show 120 < m ∨ m ≤ 120 by omega) with hm1 | hm1
  · have hm2 : (120 : Int) < (m : Int) := by omega
    have HF := Lib.hid (show R = false by rw [H.out, decide_eq_false (show ¬ m ≤ 120 by omega)]; simp)
    clear H
    go_enter Try.func15, Try.ntmps15
    go_wp2_with (first | ((with_reducible refine (h1.out _).mono ?_); rintro e w' ⟨rfl, rfl⟩) | ((with_reducible refine (h2.out _).mono ?_); rintro e w' ⟨rfl, rfl⟩) | ((with_reducible refine (h3.out _).mono ?_); rintro e w' ⟨rfl, rfl⟩))
    go_ret
    exact ⟨by rw [HF.out]; rfl, N0.out⟩
  have hn12 := hb2 rfl
  have HR := Lib.hid (show R = (sz.all (fun n => inR n 160 4096) && acts.all rightA) by rw [H.out, decide_eq_true hm1]; simp)
  have hm2 : decide ((120 : Int) < (m : Int)) = false := by simp; omega
  have HZL := Lib.hid hz; have HAL := Lib.hid ha
  have S0 := Lib.hid (HS.out.nw N0.out hB)
  have hBW : B ≤ W.heap.size := Nat.le_trans hB N0.out.size
  clear H hb2 hz ha HS
  go_enter Try.func15, Try.ntmps15
  go_wp2_with (first | ((with_reducible refine (h1.out _).mono ?_); rintro e w' ⟨rfl, rfl⟩) | ((with_reducible refine (h2.out _).mono ?_); rintro e w' ⟨rfl, rfl⟩) | ((with_reducible refine (h3.out _).mono ?_); rintro e w' ⟨rfl, rfl⟩))
  go_loopw [36] (fun i wr => ∃ k : Nat, k ≤ n ∧ i = .int .i64 k ∧ Hid ((sz.take k).all (fun n => inR n 160 4096) = true) ∧ Nw W wr) (fun i _ => n - (intOf i).toNat)
  case atStart => exact ⟨0, Nat.zero_le _, rfl, Lib.hid rfl, Nw.refl _⟩
  case round =>
    obtain ⟨k, hk, rfl, hall, hnw0⟩ := hrel
    by_cases hlt : k < n
    · obtain ⟨b, off, rfl, hzl, hc⟩ := (S0.out.z.nw hnw0 hBW).atI hlt
      have hlt' : (k : Int) < (n : Int) := by omega
      have hx : sz[k]? = some sz[k] := List.getElem?_eq_getElem hzl
      obtain ⟨v, hv⟩ : ∃ v, sz[k] = v := ⟨_, rfl⟩
      rw [hv] at hx hc
      have HM := Lib.hid (fun w' => within_any v 160 4096 w')
      obtain ⟨q, hq⟩ : ∃ q, inR v 160 4096 = q := ⟨_, rfl⟩
      rw [hq] at HM
      have HQ := Lib.hid hq; have HX := Lib.hid hx
      clear hx hv hq
      rcases q with _ | _
      · have HF := Lib.hid (show R = false by rw [HR.out, all_false HX.out HQ.out]; simp)
        clear HR
        go_wp2_with (first | ((with_reducible refine (HM.out _).mono ?_); rintro e w' ⟨rfl, rfl⟩))
        go_ret
        exact ⟨by rw [HF.out]; rfl, gb_trans N0.out hnw0⟩
      · go_wp2_with (first | ((with_reducible refine (HM.out _).mono ?_); rintro e w' ⟨rfl, rfl⟩))
        go_roundw
        case rel => exact ⟨k + 1, by omega, by go_num, Lib.hid (by rw [all_step HX.out, hall.out, HQ.out]; rfl), hnw0⟩
        case measure => simp only [intOf]; omega
    · have hkn : k = n := by omega
      subst hkn
      have hd : decide ((k : Int) < (k : Int)) = false := by simp
      have HF := Lib.hid (show R = acts.all rightA by
        have e := hall.out
        rw [List.take_of_length_le (by rw [HZL.out]; exact Nat.le_refl _)] at e
        rw [HR.out, e]; simp)
      clear HR hall
      have k3' := (BX.out.nw hnw0).cell 3
      go_wp2_with fail
      go_loopw [47] (fun i wr => ∃ k : Nat, k ≤ m ∧ i = .int .i64 k ∧ Hid ((acts.take k).all rightA = true) ∧ Nw W wr) (fun i _ => m - (intOf i).toNat)
      case atStart => exact ⟨0, Nat.zero_le _, rfl, Lib.hid rfl, hnw0⟩
      case round =>
        obtain ⟨j, hj, rfl, hall, hnw⟩ := hrel
        by_cases hlt : j < m
        · obtain ⟨_, b, off, x, rfl, hbB, hx, hc⟩ := S0.out.a.atL actC_len (by decide) hlt
          have hlt' : (j : Int) < (m : Int) := by omega
          have HC := Lib.hid (fun w' (k : Nw W w') => show ∀ j' u, (actC x)[j']? = some u → w'.cell? ⟨b, off + j * 69 + j', none⟩ = some u from fun j' u hu => (World.cell?_of_block (k.block b (by omega) (by simp))).trans (hc j' u hu))
          have hok := S0.out.ok x (List.mem_of_getElem? hx)
          have HX := Lib.hid hx
          have HB := Lib.hid (fun w' => bare_any hok.s w')
          have hra : rightA x = (knownK x.k && decide (bareA x = x) && inR x.b 0 255 && inR x.n 0 (mostN x.k) && inR x.at' 0 255) := rfl
          have hl1 := hok.s
          have hl2 := bare_len x hok.s
          unfold BarePost at HB
          have p1 := Lib.hid (fun w' => within_any x.b 0 255 w')
          have p2 := Lib.hid (fun w' => within_any x.n 0 (mostN x.k) w')
          have p3 := Lib.hid (fun w' => within_any x.at' 0 255 w')
          obtain ⟨q0, e0⟩ : ∃ q, knownK x.k = q := ⟨_, rfl⟩
          obtain ⟨q1, e1⟩ : ∃ q, inR x.b 0 255 = q := ⟨_, rfl⟩
          obtain ⟨q2, e2⟩ : ∃ q, inR x.n 0 (mostN x.k) = q := ⟨_, rfl⟩
          obtain ⟨q3, e3⟩ : ∃ q, inR x.at' 0 255 = q := ⟨_, rfl⟩
          rw [e0, e1, e2, e3] at hra
          rw [e0] at HB
          rw [e1] at p1
          rw [e2] at p2
          rw [e3] at p3
          obtain ⟨y', hy'⟩ : ∃ z, bareA x = z := ⟨_, rfl⟩
          rw [hy'] at HB hra hl2
          obtain ⟨M, hM⟩ : ∃ M, mostN x.k = M := ⟨_, rfl⟩
          rw [hM] at p2
          have HRA := Lib.hid hra
          clear hc e0 e1 e2 e3 hra hy' hx
          have hcase : ((x.k == 5) = true ∧ M = 65535) ∨ ((x.k == 5) = false ∧ M = 255) := by
            unfold mostN at hM
            by_cases h5 : x.k = 5
            · rw [if_pos h5] at hM; exact .inl ⟨by simpa using h5, hM.symm⟩
            · rw [if_neg h5] at hM; exact .inr ⟨by simpa using h5, hM.symm⟩
          clear hM
          rcases hcase with ⟨h5, rfl⟩ | ⟨h5, rfl⟩
          all_goals
            go_upto_region 12 with (first | ((with_reducible refine wpList_store44 _ _ (by with_unfolding_all exact rfl) (by with_unfolding_all exact rfl) x (by with_unfolding_all exact rfl) (by with_unfolding_all exact rfl) X1.out ?_); intro w2 s2 g2; have X2 := Lib.hid s2; have N2 := Lib.hid (nw_of_gb N1.out g2 (fun q hq => by injection hq with hq; have := hnw.size; omega)); have hkk := s2.k) | ((with_reducible refine wpList_alloc44 (by with_unfolding_all exact rfl) (by with_unfolding_all exact rfl) ?_); intro gx w1 x1 n1 l1; have X1 := Lib.hid x1; have N1 := Lib.hid (gb_trans hnw n1)) | ((with_reducible refine wpList_load_agg 44 _ (by with_unfolding_all exact rfl) (by with_unfolding_all exact rfl) (by with_unfolding_all exact rfl) (actC x) (HC.out _ hnw) _ Try.underlying44 (by with_unfolding_all exact rfl) (i44' x) ?_)))
            go_upto_region 16 with (first | ((with_reducible refine wpList_store44 _ _ (by with_unfolding_all exact rfl) (by with_unfolding_all exact rfl) y' (by with_unfolding_all exact rfl) (by with_unfolding_all exact rfl) Y4.out ?_); intro w5 s5 g5; have Y5 := Lib.hid s5; have X5 := Lib.hid (X4.out.other g5 hxy); have N5 := Lib.hid (nw_of_gb N4.out g5 (fun q hq => by injection hq with hq; have := N3.out.size; omega)); have hxb := X5.out.b; have hxn := X5.out.n; have hxt := X5.out.t) | ((with_reducible refine wpList_alloc44 (by with_unfolding_all exact rfl) (by with_unfolding_all exact rfl) ?_); intro gy w4 y4 n4 l4; have Y4 := Lib.hid y4; have N4 := Lib.hid (gb_trans N3.out n4); have X4 := Lib.hid (X3.out.nw n4); have hxy : gx ≠ gy := Nat.ne_of_lt (Nat.lt_of_lt_of_le (Obj1.lt X3.out) l4)) | ((with_reducible refine (HB.out _).mono ?_); rintro e w3 ⟨rfl, n3⟩; have X3 := Lib.hid (X2.out.nw n3); have N3 := Lib.hid (gb_trans N2.out n3)) | ((with_reducible refine wpList_load44 _ (by with_unfolding_all exact rfl) (by with_unfolding_all exact rfl) (by with_unfolding_all exact rfl) X2.out ?_)))
            clear X1 N1 X2 N2 X3 N3 X4 N4 Y4 x1 n1 l1 s2 g2 n3 y4 n4 l4 s5 g5 HB HC
            rcases q0 with _ | _
            · have HG := Lib.hid (show R = false by rw [HF.out, all_false HX.out (by rw [HRA.out]; rfl)])
              clear HF HRA
              go_wp2_with (first | ((with_reducible refine (p3.out _).mono ?_); rintro e w' ⟨rfl, rfl⟩) | ((with_reducible refine (p2.out _).mono ?_); rintro e w' ⟨rfl, rfl⟩) | ((with_reducible refine (p1.out _).mono ?_); rintro e w' ⟨rfl, rfl⟩) | ((with_reducible refine wpList_neq_act _ _ (by with_unfolding_all exact rfl) (by with_unfolding_all exact rfl) (by with_unfolding_all exact rfl) (by with_unfolding_all exact rfl) hl2 hl1 hne ?_)) | ((with_reducible refine wpList_load44 _ (by with_unfolding_all exact rfl) (by with_unfolding_all exact rfl) (by with_unfolding_all exact rfl) Y5.out ?_)) | ((with_reducible refine wpList_load44 _ (by with_unfolding_all exact rfl) (by with_unfolding_all exact rfl) (by with_unfolding_all exact rfl) X5.out ?_)))
              go_ret
              exact ⟨by rw [HG.out]; rfl, gb_trans N0.out N5.out⟩
            rcases (show y' ≠ x ∨ y' = x from Decidable.em _ |>.symm) with hyx | hyx
            · have HG := Lib.hid (show R = false by rw [HF.out, all_false HX.out (by rw [HRA.out, decide_eq_false hyx]; rfl)])
              have hne : (!decide (y' = x)) = true := by rw [decide_eq_false hyx]; rfl
              clear HF HRA hyx
              go_wp2_with (first | ((with_reducible refine (p3.out _).mono ?_); rintro e w' ⟨rfl, rfl⟩) | ((with_reducible refine (p2.out _).mono ?_); rintro e w' ⟨rfl, rfl⟩) | ((with_reducible refine (p1.out _).mono ?_); rintro e w' ⟨rfl, rfl⟩) | ((with_reducible refine wpList_neq_act _ _ (by with_unfolding_all exact rfl) (by with_unfolding_all exact rfl) (by with_unfolding_all exact rfl) (by with_unfolding_all exact rfl) hl2 hl1 hne ?_)) | ((with_reducible refine wpList_load44 _ (by with_unfolding_all exact rfl) (by with_unfolding_all exact rfl) (by with_unfolding_all exact rfl) Y5.out ?_)) | ((with_reducible refine wpList_load44 _ (by with_unfolding_all exact rfl) (by with_unfolding_all exact rfl) (by with_unfolding_all exact rfl) X5.out ?_)))
              go_ret
              exact ⟨by rw [HG.out]; rfl, gb_trans N0.out N5.out⟩
            have hne : (!decide (y' = x)) = false := by rw [decide_eq_true hyx]; rfl
            have HRB := Lib.hid (show rightA x = (q1 && q2 && q3) by rw [HRA.out, decide_eq_true hyx]; rfl)
            clear hyx HRA
            rcases q1 with _ | _
            · have HG := Lib.hid (show R = false by rw [HF.out, all_false HX.out (by rw [HRB.out]; rfl)])
              clear HF HRB
              go_wp2_with (first | ((with_reducible refine (p3.out _).mono ?_); rintro e w' ⟨rfl, rfl⟩) | ((with_reducible refine (p2.out _).mono ?_); rintro e w' ⟨rfl, rfl⟩) | ((with_reducible refine (p1.out _).mono ?_); rintro e w' ⟨rfl, rfl⟩) | ((with_reducible refine wpList_neq_act _ _ (by with_unfolding_all exact rfl) (by with_unfolding_all exact rfl) (by with_unfolding_all exact rfl) (by with_unfolding_all exact rfl) hl2 hl1 hne ?_)) | ((with_reducible refine wpList_load44 _ (by with_unfolding_all exact rfl) (by with_unfolding_all exact rfl) (by with_unfolding_all exact rfl) Y5.out ?_)) | ((with_reducible refine wpList_load44 _ (by with_unfolding_all exact rfl) (by with_unfolding_all exact rfl) (by with_unfolding_all exact rfl) X5.out ?_)))
              go_ret
              exact ⟨by rw [HG.out]; rfl, gb_trans N0.out N5.out⟩
            rcases q2 with _ | _
            · have HG := Lib.hid (show R = false by rw [HF.out, all_false HX.out (by rw [HRB.out]; rfl)])
              clear HF HRB
              go_wp2_with (first | ((with_reducible refine (p3.out _).mono ?_); rintro e w' ⟨rfl, rfl⟩) | ((with_reducible refine (p2.out _).mono ?_); rintro e w' ⟨rfl, rfl⟩) | ((with_reducible refine (p1.out _).mono ?_); rintro e w' ⟨rfl, rfl⟩) | ((with_reducible refine wpList_neq_act _ _ (by with_unfolding_all exact rfl) (by with_unfolding_all exact rfl) (by with_unfolding_all exact rfl) (by with_unfolding_all exact rfl) hl2 hl1 hne ?_)) | ((with_reducible refine wpList_load44 _ (by with_unfolding_all exact rfl) (by with_unfolding_all exact rfl) (by with_unfolding_all exact rfl) Y5.out ?_)) | ((with_reducible refine wpList_load44 _ (by with_unfolding_all exact rfl) (by with_unfolding_all exact rfl) (by with_unfolding_all exact rfl) X5.out ?_)))
              go_ret
              exact ⟨by rw [HG.out]; rfl, gb_trans N0.out N5.out⟩
            rcases q3 with _ | _
            · have HG := Lib.hid (show R = false by rw [HF.out, all_false HX.out (by rw [HRB.out]; rfl)])
              clear HF HRB
              go_wp2_with (first | ((with_reducible refine (p3.out _).mono ?_); rintro e w' ⟨rfl, rfl⟩) | ((with_reducible refine (p2.out _).mono ?_); rintro e w' ⟨rfl, rfl⟩) | ((with_reducible refine (p1.out _).mono ?_); rintro e w' ⟨rfl, rfl⟩) | ((with_reducible refine wpList_neq_act _ _ (by with_unfolding_all exact rfl) (by with_unfolding_all exact rfl) (by with_unfolding_all exact rfl) (by with_unfolding_all exact rfl) hl2 hl1 hne ?_)) | ((with_reducible refine wpList_load44 _ (by with_unfolding_all exact rfl) (by with_unfolding_all exact rfl) (by with_unfolding_all exact rfl) Y5.out ?_)) | ((with_reducible refine wpList_load44 _ (by with_unfolding_all exact rfl) (by with_unfolding_all exact rfl) (by with_unfolding_all exact rfl) X5.out ?_)))
              go_ret
              exact ⟨by rw [HG.out]; rfl, gb_trans N0.out N5.out⟩
            go_wp2_with (first | ((with_reducible refine (p3.out _).mono ?_); rintro e w' ⟨rfl, rfl⟩) | ((with_reducible refine (p2.out _).mono ?_); rintro e w' ⟨rfl, rfl⟩) | ((with_reducible refine (p1.out _).mono ?_); rintro e w' ⟨rfl, rfl⟩) | ((with_reducible refine wpList_neq_act _ _ (by with_unfolding_all exact rfl) (by with_unfolding_all exact rfl) (by with_unfolding_all exact rfl) (by with_unfolding_all exact rfl) hl2 hl1 hne ?_)) | ((with_reducible refine wpList_load44 _ (by with_unfolding_all exact rfl) (by with_unfolding_all exact rfl) (by with_unfolding_all exact rfl) Y5.out ?_)) | ((with_reducible refine wpList_load44 _ (by with_unfolding_all exact rfl) (by with_unfolding_all exact rfl) (by with_unfolding_all exact rfl) X5.out ?_)))
            go_roundw
            case rel => exact ⟨j + 1, by omega, by go_num, Lib.hid (by rw [all_step HX.out, hall.out, HRB.out]; rfl), N5.out⟩
            case measure => simp only [intOf]; omega
        · have hje : j = m := by omega
          subst hje
          have hd2 : decide ((j : Int) < (j : Int)) = false := by simp
          have HG := Lib.hid (show R = true by
            have e := hall.out
            rw [List.take_of_length_le (by rw [HAL.out]; exact Nat.le_refl _)] at e
            rw [HF.out, e])
          clear HF hall
          go_wp2
          go_ret
          exact ⟨by rw [HG.out]; rfl, gb_trans N0.out hnw⟩
end Go.Proofs.Ytmcgfnfhpcddlaa


/- What script.put and script.filled return, for all bytes and numbers. -/
namespace Go.Proofs.Ytmcgfnfhpcddlaa
open Go.RowKit Go.BW

theorem gb_join {w w1 w2 : World} {row row' : Option Nat} (h : w.grownBy w1 row) (k : w1.grownBy w2 row') (hr : ∀ g, row' = some g → row = some g ∨ w.heap.size ≤ g) : w.grownBy w2 row :=
  ⟨k.os.trans h.os, k.tape.trans h.tape, k.output.trans h.output, Nat.le_trans h.size k.size, fun i hi hne => (k.block i (Nat.lt_of_lt_of_le hi h.size) (fun e => by
    rcases hr i e.symm with h1 | h1
    · exact hne h1.symm
    · omega)).trans (h.block i hi hne)⟩
/-- bytes behind an own row -/
structure Grown (w : World) (base : Nat) (A : Option Addr) (n c : Nat) (A' : Option Addr) (n' c' : Nat) (bs : List UInt8) (w' : World) : Prop where
  own : Own w' base 5 1 A' n' c' (bs.map bv)
  gb : w.grownBy w' (Value.slice A n c).ownBlock
  blk : (Value.slice A' n' c').ownBlock = (Value.slice A n c).ownBlock ∨ ∃ g, w.heap.size ≤ g ∧ (Value.slice A' n' c').ownBlock = some g
section
variable {w w' w'' : World} {base n c n' c' n'' c'' : Nat} {A A' A'' : Option Addr} {bs bs' : List UInt8}
theorem Grown.zero (h : Own w base 5 1 A n c (bs.map bv)) : Grown w base A n c A n c bs w := ⟨h, World.grownBy.refl w _, .inl rfl⟩
theorem Grown.trans (h : Grown w base A n c A' n' c' bs w') (k : Grown w' base A' n' c' A'' n'' c'' bs' w'') : Grown w base A n c A'' n'' c'' bs' w'' := by
  refine ⟨k.own, gb_join h.gb k.gb fun g hg => ?_, ?_⟩
  · rcases h.blk with e | ⟨q, hq, e⟩
    · rw [e] at hg; exact .inl hg
    · rw [e] at hg; injection hg with hg; exact .inr (by omega)
  · rcases k.blk with e | ⟨q, hq, e⟩
    · rw [e]; exact h.blk
    · exact .inr ⟨q, Nat.le_trans h.gb.size hq, e⟩
theorem Grown.len (h : Grown w base A n c A' n' c' bs w') : bs.length = n' := by have := h.own.len; simpa using this
end
def PutPost (base : Nat) (A : Option Addr) (n c : Nat) (bs : List UInt8) (k : Nat) (w : World) (e : Ending) (w' : World) : Prop :=
  ∃ A' c', e = .returned (.slice A' (n + k) c') ∧ Grown w base A n c A' (n + k) c' bs w'
theorem be_take (v w t : Nat) (h : t < w) : (be w v).take (t + 1) = (be w v).take t ++ [UInt8.ofNat (v / 256 ^ (w - 1 - t))] := by
  induction w generalizing t with
  | zero => omega
  | succ w ih =>
    cases t with
    | zero => simp [be]
    | succ t =>
      show UInt8.ofNat (v / 256 ^ w) :: (be w v).take (t + 1) = UInt8.ofNat (v / 256 ^ w) :: (be w v).take t ++ _
      rw [ih t (by omega), show w + 1 - 1 - (t + 1) = w - 1 - t by omega]; rfl
theorem shr_byte (v i : Nat) : IntKind.u8.wrap ((v : Int) / 2 ^ (8 * i)) = ((UInt8.ofNat (v / 256 ^ i)).toNat : Int) := by
  have e : ((v : Int) / 2 ^ (8 * i)) = ((v / 256 ^ i : Nat) : Int) := by
    rw [Int.natCast_ediv, Int.natCast_pow, Int.pow_mul]; rfl
  rw [e, IntKind.wrap_u8]
  simp
set_option maxHeartbeats 2000000 in
theorem put_any {w : World} {base n c k : Nat} {A : Option Addr} {bs : List UInt8} (ho : Own w base 5 1 A n c (bs.map bv)) (hb : base ≤ w.heap.size) (v : Nat) (hv : v < 18446744073709551616) (hk : k ≤ 8) (hn : n ≤ 1000000) {K : Int} (hK : K = (k : Int)) :
    Calls Try.prog 35 #[.slice A n c, .int .u64 (v : Int), .int .i64 K] w (PutPost base A n c (bs ++ be k v) k w) := by
  subst hK
  have HO := Lib.hid ho
  go_enter Try.func35, Try.ntmps35
  go_wp2
  go_loopw [0, 7] (fun b i wr => ∃ (t c' : Nat) (A' : Option Addr), t ≤ k ∧ i = .int .i64 ((k : Int) - 1 - t) ∧ b = .slice A' (n + t) c' ∧ Grown w base A n c A' (n + t) c' (bs ++ (be k v).take t) wr) (fun _ i _ => (intOf i + 1).toNat)
  case atStart => exact ⟨0, c, A, Nat.zero_le _, by go_num, rfl, by simpa using Grown.zero ho⟩
  case round =>
    obtain ⟨t, c', A', ht, rfl, rfl, hg⟩ := hrel
    rcases (show t < k ∨ t = k by omega) with hlt | rfl
    · obtain ⟨i, hi⟩ : ∃ i : Nat, i = k - 1 - t := ⟨_, rfl⟩
      have hii : (k : Int) - 1 - (t : Int) = (i : Int) := by omega
      rw [hii]
      have hi7 : i ≤ 7 := by omega
      have HB := Lib.hid (shr_byte v i); have HT := Lib.hid (be_take v k t hlt)
      have HG := Lib.hid hg
      have h0 : (0 : Int) ≤ (i : Int) := by omega
      have hbs := Nat.le_trans hb hg.gb.size
      clear hg
      go_wp2_with (first
        | (at_builtin; refine wpList_app1_own T46 _ _ rfl rfl rfl rfl HG.out.own rfl (by unfold maxLen; omega) hbs ?_; intro A8 c8 w8 o8 g8 b8))
      go_roundw
      case rel =>
        refine ⟨t + 1, c8, A8, by omega, by go_num, rfl, HG.out.trans ⟨?_, g8, b8⟩⟩
        rw [HT.out, ← hi, ← List.append_assoc, List.map_append]
        have e := HB.out
        rw [IntKind.wrap_u8, hi] at e
        rw [e] at o8
        rw [hi]
        exact o8
      case measure => simp only [intOf]; omega
    · have hm : ((t : Int) - 1 - (t : Int)) = -1 := by omega
      rw [hm]
      have HG := Lib.hid hg
      rw [List.take_of_length_le (by rw [be_len]; exact Nat.le_refl _)] at HG
      clear hg
      go_wp2
      go_ret
      exact ⟨A', c', rfl, HG.out⟩
def PutNew (A : Option Addr) (n k : Nat) (bs : List UInt8) (w : World) (e : Ending) (w' : World) : Prop :=
  ∃ A' c', e = .returned (.slice A' (n + k) c') ∧ Own w' w.heap.size 5 1 A' (n + k) c' (bs.map bv) ∧ Nw w w'
set_option maxHeartbeats 2000000 in
/-- .. behind a slice that is full: it goes on elsewhere -/
theorem put_full_any {w : World} {B n k : Nat} {A : Option Addr} {bs : List UInt8} (ho : Rd w B 1 A n (bs.map bv)) (hb : B ≤ w.heap.size) (v : Nat) (hv : v < 18446744073709551616) (hk : k ≤ 8) (hk1 : 1 ≤ k) (hn : n ≤ 1000000) {K : Int} (hK : K = (k : Int)) :
    Calls Try.prog 35 #[.slice A n n, .int .u64 (v : Int), .int .i64 K] w (PutNew A n k (bs ++ be k v) w) := by
  subst hK
  have HO := Lib.hid ho
  go_enter Try.func35, Try.ntmps35
  go_wp2
  go_loopw [0, 7] (fun b i wr => ∃ (t c' : Nat) (A' : Option Addr), t ≤ k ∧ i = .int .i64 ((k : Int) - 1 - t) ∧ b = .slice A' (n + t) c' ∧ Hid ((t = 0 ∧ A' = A ∧ c' = n) ∨ Own wr w.heap.size 5 1 A' (n + t) c' ((bs ++ (be k v).take t).map bv)) ∧ Nw w wr) (fun _ i _ => (intOf i + 1).toNat)
  case atStart => exact ⟨0, n, A, Nat.zero_le _, by go_num, rfl, Lib.hid (.inl ⟨rfl, rfl, rfl⟩), Nw.refl _⟩
  case round =>
    obtain ⟨t, c', A', ht, rfl, rfl, hst, hnw⟩ := hrel
    rcases (show t < k ∨ t = k by omega) with hlt | rfl
    · obtain ⟨i, hi⟩ : ∃ i : Nat, i = k - 1 - t := ⟨_, rfl⟩
      have hii : (k : Int) - 1 - (t : Int) = (i : Int) := by omega
      rw [hii]
      have hi7 : i ≤ 7 := by omega
      have HB := Lib.hid (shr_byte v i); have HT := Lib.hid (be_take v k t hlt)
      have h0 : (0 : Int) ≤ (i : Int) := by omega
      have hbs := hnw.size
      have NR := Lib.hid hnw
      have hfin : ∀ (A8 : Option Addr) (c8 : Nat) (w8 : World), Own w8 w.heap.size 5 1 A8 (n + t + 1) c8 (List.map bv (bs ++ List.take t (be k v)) ++ [Value.int IntKind.u8 ((v : Int) / 2 ^ (8 * (k - 1 - t)) % 256)]) → Own w8 w.heap.size 5 1 A8 (n + (t + 1)) c8 ((bs ++ (be k v).take (t + 1)).map bv) := by
        intro A8 c8 w8 o8
        rw [HT.out, ← hi, ← List.append_assoc, List.map_append]
        have e := HB.out
        rw [IntKind.wrap_u8, hi] at e
        rw [e] at o8
        rw [hi]
        exact o8
      have HF := Lib.hid hfin
      rcases hst.out with ⟨rfl, rfl, rfl⟩ | hown
      · have hr := HO.out.nw hnw hb
        rw [show bs.map bv = (bs ++ List.take 0 (be k v)).map bv from by simp] at hr
        have HR := Lib.hid hr
        have hB := Nat.le_trans hb hbs
        clear hr hfin hnw hst
        go_wp2_with (first
          | (at_builtin; refine wpList_app1_full T46 _ _ rfl rfl w.heap.size rfl rfl HR.out hB (by unfold maxLen; omega) hbs ?_; intro A8 c8 w8 o8 g8))
        go_roundw
        case rel => exact ⟨0 + 1, c8, A8, by omega, by go_num, rfl, Lib.hid (.inr (HF.out _ _ _ o8)), gb_trans NR.out g8⟩
        case measure => simp only [intOf]; omega
      · have HW := Lib.hid hown
        have hblk := hown.blk
        clear hown hfin hnw hst
        go_wp2_with (first
          | (at_builtin; refine wpList_app1_own T46 _ _ rfl rfl rfl rfl HW.out rfl (by unfold maxLen; omega) hbs ?_; intro A8 c8 w8 o8 g8 b8))
        go_roundw
        case rel => exact ⟨t + 1, c8, A8, by omega, by go_num, rfl, Lib.hid (.inr (HF.out _ _ _ o8)), nw_of_gb NR.out g8 hblk⟩
        case measure => simp only [intOf]; omega
    · have hm : ((t : Int) - 1 - (t : Int)) = -1 := by omega
      rw [hm]
      have hown := hst.out.resolve_left (by omega)
      rw [List.take_of_length_le (by rw [be_len]; exact Nat.le_refl _)] at hown
      have HW := Lib.hid hown
      clear hst hown
      go_wp2
      go_ret
      exact ⟨A', c', rfl, HW.out, hnw⟩
theorem fill_step (s : List UInt8) {n : Nat} {c : UInt8} (hn : fillN s ≤ n + 1) (hc : s[n]? = some c) : (c = 0 → fillN s ≤ n) ∧ (c ≠ 0 → fillN s = n + 1) := by
  have hl := (List.getElem?_eq_some_iff.1 hc).1
  constructor
  · intro h0
    rcases Nat.lt_or_ge n (fillN s) with h | h
    · have he : fillN s = n + 1 := by omega
      exfalso
      unfold fillN at he
      have hd : (s.reverse.dropWhile (· == 0)) ≠ [] := by intro e; rw [e] at he; simp at he
      have hhead := List.head_dropWhile_not (p := (· == (0 : UInt8))) (l := s.reverse) (w := hd)
      have hsuf : s.reverse.dropWhile (· == 0) <:+ s.reverse := List.dropWhile_suffix _
      obtain ⟨t, ht⟩ := hsuf
      have hr := congrArg List.reverse ht
      rw [List.reverse_append, List.reverse_reverse] at hr
      obtain ⟨x, r, hx⟩ := List.exists_cons_of_ne_nil hd
      simp only [hx, List.head_cons] at hhead
      rw [hx] at hr he
      rw [← hr, List.reverse_cons, List.append_assoc, List.getElem?_append_right (by simp at he ⊢; omega)] at hc
      simp at he
      simp [he] at hc
      rw [hc] at hhead
      simp [h0] at hhead
    · exact h
  · intro h0
    rcases Nat.lt_or_ge n (fillN s) with h | h
    · omega
    · exfalso
      have hp := fill_pad s
      rw [hp, List.getElem?_append_right (by rw [List.length_take]; omega), List.length_take, List.getElem?_replicate] at hc
      split at hc
      · injection hc with hc; exact h0 hc.symm
      · cases hc
set_option maxHeartbeats 2000000 in
theorem filled_any (s : List UInt8) (hs : s.length = 64) (w : World) : Calls Try.prog 36 #[.agg (s.map bv).toArray] w (Ret (.int .i64 (fillN s)) w) := by
  have hbox := Obj1.new w 33 (s.map bv).toArray
  have hg0 := World.grownBy_alloc w (.cells (s.map bv).toArray 33) none
  obtain ⟨W, hW⟩ : ∃ W, w.alloc (.cells (s.map bv).toArray 33) = W := ⟨_, rfl⟩
  obtain ⟨y, hy⟩ : ∃ y, w.heap.size = y := ⟨_, rfl⟩
  rw [hW] at hbox hg0
  rw [hy] at hbox
  have BX := Lib.hid hbox; have N0 := Lib.hid hg0
  have hle := fillN_le s
  clear hbox hg0
  go_enter Try.func36, Try.ntmps36
  go_wp2
  go_loopw [3] (fun i wr => ∃ n : Nat, i = .int .i64 (n : Int) ∧ n ≤ 64 ∧ fillN s ≤ n ∧ Nw W wr) (fun i _ => (intOf i).toNat)
  case atStart => exact ⟨64, rfl, Nat.le_refl _, by omega, Nw.refl _⟩
  case round =>
    obtain ⟨n, rfl, hn, hfl, hnw⟩ := hrel
    rcases n with _ | n
    · have hz : fillN s = 0 := by omega
      have HZ := Lib.hid hz
      clear hfl hz hle
      go_wp2
      go_ret
      exact ⟨by rw [HZ.out]; rfl, gb_trans N0.out hnw⟩
    · have hc : s[n]? = some s[n] := List.getElem?_eq_getElem (by omega)
      obtain ⟨c, hcc⟩ : ∃ c, s[n] = c := ⟨_, rfl⟩
      rw [hcc] at hc
      have hf := fill_step s hfl hc
      have hcell : wr.cell? ⟨y, n, none⟩ = some (.int .u8 (c.toNat : Int)) := by
        rw [(BX.out.nw hnw).cell n, List.getElem?_toArray, List.getElem?_map, hc]; rfl
      have hlt : (0 : Int) < ((n + 1 : Nat) : Int) := by omega
      have hcast : ((n + 1 : Nat) : Int) - 1 = (n : Int) := by omega
      rcases Decidable.em (c = 0) with h0 | h0
      · have hh := Lib.hid (hf.1 h0)
        have hq : ((c.toNat : Int) == 0) = true := by rw [h0]; rfl
        clear hf hc hcc hfl h0 hle
        go_wp2
        go_roundw
        case rel => exact ⟨n, by go_num, by omega, hh.out, hnw⟩
        case measure => simp only [intOf]; omega
      · have hh := Lib.hid (hf.2 h0)
        have hq : ((c.toNat : Int) == 0) = false := by
          rw [beq_eq_false_iff_ne]
          intro e
          exact h0 (UInt8.toNat_inj.1 (by simpa using (show c.toNat = 0 by omega)))
        clear hf hc hcc hfl h0 hle
        go_wp2
        go_ret
        exact ⟨by rw [hh.out]; rfl, gb_trans N0.out hnw⟩
end Go.Proofs.Ytmcgfnfhpcddlaa

