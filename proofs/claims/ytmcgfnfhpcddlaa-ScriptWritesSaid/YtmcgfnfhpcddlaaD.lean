/- Scripts as values, and what script.Right returns; for all scripts. -/
import Derived.Test.YtmcgfnfhpcddlaaC
namespace Go.Proofs.Ytmcgfnfhpcddlaa
open Go.RowKit Go.BW

structure Sc where
  num : Int
  A : Option Addr
  n : Nat
  c : Nat
  sz : List Int
  bl : Int
  D : Option Addr
  m : Nat
  d : Nat
  acts : List Act
def sc (x : Sc) : List Value := [.int .i64 x.num, .slice x.A x.n x.c, .int .i64 x.bl, .slice x.D x.m x.d]
def sv (x : Sc) : Value := .agg #[.int .i64 x.num, .slice x.A x.n x.c, .int .i64 x.bl, .slice x.D x.m x.d]
def scr (x : Sc) : Scr := ⟨x.num, x.sz, x.bl, x.acts⟩
/-- its rows lie below B -/
structure SOk (w : World) (B : Nat) (x : Sc) : Prop where
  z : Rd w B 1 x.A x.n (x.sz.map iv)
  zc : x.n ≤ x.c
  zm : x.c ≤ maxLen
  a : Rd w B 69 x.D x.m (fl actC x.acts)
  ac : x.m ≤ x.d
  am : x.d ≤ maxLen
  ok : ∀ a ∈ x.acts, ActOk a
section
variable {w w' : World} {B B' : Nat} {x : Sc}
theorem SOk.nw (h : SOk w B x) (k : Nw w w') (hB : B ≤ w.heap.size) : SOk w' B x := ⟨h.z.nw k hB, h.zc, h.zm, h.a.nw k hB, h.ac, h.am, h.ok⟩
theorem SOk.more (h : SOk w B x) (hB : B ≤ B') : SOk w B' x := ⟨h.z.more hB, h.zc, h.zm, h.a.more hB, h.ac, h.am, h.ok⟩
theorem SOk.zl (h : SOk w B x) : x.sz.length = x.n := by have := h.z.1; simpa using this
theorem SOk.al (h : SOk w B x) : x.acts.length = x.m := h.a.lenL actC_len (by decide)
theorem SOk.scrOk (h : SOk w B x) : ScrOk (scr x) := ⟨h.ok⟩
theorem sc_one (num : Int) (A : Option Addr) (n c : Nat) (bl : Int) (D : Option Addr) (m d : Nat) : ∀ u ∈ [Value.int .i64 num, .slice A n c, .int .i64 bl, .slice D m d], u.oneCell' = true := by
  intro u hu; simp at hu; rcases hu with rfl | rfl | rfl | rfl <;> rfl
end
theorem all_step {α : Type} {p : α → Bool} {l : List α} {k : Nat} {x : α} (h : l[k]? = some x) : (l.take (k + 1)).all p = ((l.take k).all p && p x) := by
  obtain ⟨hk, rfl⟩ := List.getElem?_eq_some_iff.1 h
  rw [List.take_succ_eq_append_getElem hk, List.all_append]
  simp
theorem all_false {α : Type} {p : α → Bool} {l : List α} {k : Nat} {x : α} (h : l[k]? = some x) (hp : p x = false) : l.all p = false := by
  rw [List.all_eq_false]; exact ⟨x, List.mem_of_getElem? h, by simp [hp]⟩
theorem bare_len (a : Act) (h : a.s.length = 64) : (bareA a).s.length = 64 := by
  have hz : z64.length = 64 := by simp [z64]
  unfold bareA
  repeat' split
  all_goals first | exact h | exact hz
set_option maxRecDepth 100000 in
set_option maxHeartbeats 8000000 in
theorem right_any {w : World} {B : Nat} {x : Sc} (h : SOk w B x) (hB : B ≤ w.heap.size) : Calls Try.prog 15 #[sv x] w (Ret (.bool (rightS (scr x))) w) := by
  have h1 := Lib.hid (fun w' => within_any x.num 0 4294967295 w')
  have h2 := Lib.hid (fun w' => within_any (x.n : Int) 3 12 w')
  have h3 := Lib.hid (fun w' => within_any x.bl 1 96 w')
  have hz := h.zl; have ha := h.al
  have hm : rightS (scr x) = (inR x.num 0 4294967295 && inR x.n 3 12 && inR x.bl 1 96 && decide (x.m ≤ 120) && x.sz.all (fun n => inR n 160 4096) && x.acts.all rightA) := by rw [← hz, ← ha]; rfl
  have HS := Lib.hid h
  have hbox := Obj1.new w 25 #[.int .i64 x.num, .slice x.A x.n x.c, .int .i64 x.bl, .slice x.D x.m x.d]
  have hg0 := World.grownBy_alloc w (.cells #[.int .i64 x.num, .slice x.A x.n x.c, .int .i64 x.bl, .slice x.D x.m x.d] 25) none
  unfold sv
  obtain ⟨num, A, n, c, sz, bl, D, m, d, acts⟩ := x
  simp only at h1 h2 h3 hm hbox hg0 hz ha ⊢
  obtain ⟨b1, e1⟩ : ∃ q, inR num 0 4294967295 = q := ⟨_, rfl⟩
  obtain ⟨b2, e2⟩ : ∃ q, inR n 3 12 = q := ⟨_, rfl⟩
  obtain ⟨b3, e3⟩ : ∃ q, inR bl 1 96 = q := ⟨_, rfl⟩
  have hb2 : b2 = true → n ≤ 12 := by intro e; rw [← e2] at e; have := inR_iff.1 e; omega
  rw [e1, e2, e3] at hm
  rw [e1] at h1
  rw [e2] at h2
  rw [e3] at h3
  have H := Lib.hid hm
  obtain ⟨R, hR⟩ : ∃ R, rightS (scr ⟨num, A, n, c, sz, bl, D, m, d, acts⟩) = R := ⟨_, rfl⟩
  rw [hR] at H ⊢
  obtain ⟨W, hW⟩ : ∃ W, w.alloc (.cells #[.int .i64 num, .slice A n c, .int .i64 bl, .slice D m d] 25) = W := ⟨_, rfl⟩
  obtain ⟨y, hy⟩ : ∃ y, w.heap.size = y := ⟨_, rfl⟩
  rw [hW] at hbox hg0
  rw [hy] at hbox
  have BX := Lib.hid hbox; have N0 := Lib.hid hg0
  have k0 := hbox.cell 0; have k1 := hbox.cell 1; have k2 := hbox.cell 2; have k3 := hbox.cell 3
  clear e1 e2 e3 hm hR hbox hg0 h
  rcases b1 with _ | _
  · go_enter Try.func15, Try.ntmps15
    go_wp2_with (first | ((with_reducible refine (h1.out _).mono ?_); rintro e w' ⟨rfl, rfl⟩) | ((with_reducible refine (h2.out _).mono ?_); rintro e w' ⟨rfl, rfl⟩) | ((with_reducible refine (h3.out _).mono ?_); rintro e w' ⟨rfl, rfl⟩))
    go_ret
    exact ⟨by rw [H.out]; rfl, N0.out⟩
  rcases b2 with _ | _
  · go_enter Try.func15, Try.ntmps15
    go_wp2_with (first | ((with_reducible refine (h1.out _).mono ?_); rintro e w' ⟨rfl, rfl⟩) | ((with_reducible refine (h2.out _).mono ?_); rintro e w' ⟨rfl, rfl⟩) | ((with_reducible refine (h3.out _).mono ?_); rintro e w' ⟨rfl, rfl⟩))
    go_ret
    exact ⟨by rw [H.out]; rfl, N0.out⟩
  rcases b3 with _ | _
  · go_enter Try.func15, Try.ntmps15
    go_wp2_with (first | ((with_reducible refine (h1.out _).mono ?_); rintro e w' ⟨rfl, rfl⟩) | ((with_reducible refine (h2.out _).mono ?_); rintro e w' ⟨rfl, rfl⟩) | ((with_reducible refine (h3.out _).mono ?_); rintro e w' ⟨rfl, rfl⟩))
    go_ret
    exact ⟨by rw [H.out]; rfl, N0.out⟩
  rcases (show 120 < m ∨ m ≤ 120 by omega) with hm1 | hm1
  · have hm2 : (120 : Int) < (m : Int) := by omega
    have HF := Lib.hid (show R = false by rw [H.out, decide_eq_false (show ¬ m ≤ 120 by omega)]; simp)
    clear H
    go_enter Try.func15, Try.ntmps15
    go_wp2_with (first | ((with_reducible refine (h1.out _).mono ?_); rintro e w' ⟨rfl, rfl⟩) | ((with_reducible refine (h2.out _).mono ?_); rintro e w' ⟨rfl, rfl⟩) | ((with_reducible refine (h3.out _).mono ?_); rintro e w' ⟨rfl, rfl⟩))
    go_ret
    exact ⟨by rw [HF.out]; rfl, N0.out⟩
  have hn12 := hb2 rfl
  have HR := Lib.hid (show R = (sz.all (fun n => inR n 160 4096) && acts.all rightA) by rw [H.out, decide_eq_true hm1]; simp)
  have hm2 : decide ((120 : Int) < (m : Int)) = false := by simp; omega
  have HZL := Lib.hid hz; have HAL := Lib.hid ha
  have S0 := Lib.hid (HS.out.nw N0.out hB)
  have hBW : B ≤ W.heap.size := Nat.le_trans hB N0.out.size
  clear H hb2 hz ha HS
  go_enter Try.func15, Try.ntmps15
  go_wp2_with (first | ((with_reducible refine (h1.out _).mono ?_); rintro e w' ⟨rfl, rfl⟩) | ((with_reducible refine (h2.out _).mono ?_); rintro e w' ⟨rfl, rfl⟩) | ((with_reducible refine (h3.out _).mono ?_); rintro e w' ⟨rfl, rfl⟩))
  go_loopw [36] (fun i wr => ∃ k : Nat, k ≤ n ∧ i = .int .i64 k ∧ Hid ((sz.take k).all (fun n => inR n 160 4096) = true) ∧ Nw W wr) (fun i _ => n - (intOf i).toNat)
  case atStart => exact ⟨0, Nat.zero_le _, rfl, Lib.hid rfl, Nw.refl _⟩
  case round =>
    obtain ⟨k, hk, rfl, hall, hnw0⟩ := hrel
    by_cases hlt : k < n
    · obtain ⟨b, off, rfl, hzl, hc⟩ := (S0.out.z.nw hnw0 hBW).atI hlt
      have hlt' : (k : Int) < (n : Int) := by omega
      have hx : sz[k]? = some sz[k] := List.getElem?_eq_getElem hzl
      obtain ⟨v, hv⟩ : ∃ v, sz[k] = v := ⟨_, rfl⟩
      rw [hv] at hx hc
      have HM := Lib.hid (fun w' => within_any v 160 4096 w')
      obtain ⟨q, hq⟩ : ∃ q, inR v 160 4096 = q := ⟨_, rfl⟩
      rw [hq] at HM
      have HQ := Lib.hid hq; have HX := Lib.hid hx
      clear hx hv hq
      rcases q with _ | _
      · have HF := Lib.hid (show R = false by rw [HR.out, all_false HX.out HQ.out]; simp)
        clear HR
        go_wp2_with (first | ((with_reducible refine (HM.out _).mono ?_); rintro e w' ⟨rfl, rfl⟩))
        go_ret
        exact ⟨by rw [HF.out]; rfl, gb_trans N0.out hnw0⟩
      · go_wp2_with (first | ((with_reducible refine (HM.out _).mono ?_); rintro e w' ⟨rfl, rfl⟩))
        go_roundw
        case rel => exact ⟨k + 1, by omega, by go_num, Lib.hid (by rw [all_step HX.out, hall.out, HQ.out]; rfl), hnw0⟩
        case measure => simp only [intOf]; omega
    · have hkn : k = n := by omega
      subst hkn
      have hd : decide ((k : Int) < (k : Int)) = false := by simp
      have HF := Lib.hid (show R = acts.all rightA by
        have e := hall.out
        rw [List.take_of_length_le (by rw [HZL.out]; exact Nat.le_refl _)] at e
        rw [HR.out, e]; simp)
      clear HR hall
      have k3' := (BX.out.nw hnw0).cell 3
      go_wp2_with fail
      go_loopw [47] (fun i wr => ∃ k : Nat, k ≤ m ∧ i = .int .i64 k ∧ Hid ((acts.take k).all rightA = true) ∧ Nw W wr) (fun i _ => m - (intOf i).toNat)
      case atStart => exact ⟨0, Nat.zero_le _, rfl, Lib.hid rfl, hnw0⟩
      case round =>
        obtain ⟨j, hj, rfl, hall, hnw⟩ := hrel
        by_cases hlt : j < m
        · obtain ⟨_, b, off, x, rfl, hbB, hx, hc⟩ := S0.out.a.atL actC_len (by decide) hlt
          have hlt' : (j : Int) < (m : Int) := by omega
          have HC := Lib.hid (fun w' (k : Nw W w') => show ∀ j' u, (actC x)[j']? = some u → w'.cell? ⟨b, off + j * 69 + j', none⟩ = some u from fun j' u hu => (World.cell?_of_block (k.block b (by omega) (by simp))).trans (hc j' u hu))
          have hok := S0.out.ok x (List.mem_of_getElem? hx)
          have HX := Lib.hid hx
          have HB := Lib.hid (fun w' => bare_any hok.s w')
          have hra : rightA x = (knownK x.k && decide (bareA x = x) && inR x.b 0 255 && inR x.n 0 (mostN x.k) && inR x.at' 0 255) := rfl
          have hl1 := hok.s
          have hl2 := bare_len x hok.s
          unfold BarePost at HB
          have p1 := Lib.hid (fun w' => within_any x.b 0 255 w')
          have p2 := Lib.hid (fun w' => within_any x.n 0 (mostN x.k) w')
          have p3 := Lib.hid (fun w' => within_any x.at' 0 255 w')
          obtain ⟨q0, e0⟩ : ∃ q, knownK x.k = q := ⟨_, rfl⟩
          obtain ⟨q1, e1⟩ : ∃ q, inR x.b 0 255 = q := ⟨_, rfl⟩
          obtain ⟨q2, e2⟩ : ∃ q, inR x.n 0 (mostN x.k) = q := ⟨_, rfl⟩
          obtain ⟨q3, e3⟩ : ∃ q, inR x.at' 0 255 = q := ⟨_, rfl⟩
          rw [e0, e1, e2, e3] at hra
          rw [e0] at HB
          rw [e1] at p1
          rw [e2] at p2
          rw [e3] at p3
          obtain ⟨y', hy'⟩ : ∃ z, bareA x = z := ⟨_, rfl⟩
          rw [hy'] at HB hra hl2
          obtain ⟨M, hM⟩ : ∃ M, mostN x.k = M := ⟨_, rfl⟩
          rw [hM] at p2
          have HRA := Lib.hid hra
          clear hc e0 e1 e2 e3 hra hy' hx
          have hcase : ((x.k == 5) = true ∧ M = 65535) ∨ ((x.k == 5) = false ∧ M = 255) := by
            unfold mostN at hM
            by_cases h5 : x.k = 5
            · rw [if_pos h5] at hM; exact .inl ⟨by simpa using h5, hM.symm⟩
            · rw [if_neg h5] at hM; exact .inr ⟨by simpa using h5, hM.symm⟩
          clear hM
          rcases hcase with ⟨h5, rfl⟩ | ⟨h5, rfl⟩
          all_goals
            go_upto_region 12 with (first | ((with_reducible refine wpList_store44 _ _ (by with_unfolding_all exact rfl) (by with_unfolding_all exact rfl) x (by with_unfolding_all exact rfl) (by with_unfolding_all exact rfl) X1.out ?_); intro w2 s2 g2; have X2 := Lib.hid s2; have N2 := Lib.hid (nw_of_gb N1.out g2 (fun q hq => by injection hq with hq; have := hnw.size; omega)); have hkk := s2.k) | ((with_reducible refine wpList_alloc44 (by with_unfolding_all exact rfl) (by with_unfolding_all exact rfl) ?_); intro gx w1 x1 n1 l1; have X1 := Lib.hid x1; have N1 := Lib.hid (gb_trans hnw n1)) | ((with_reducible refine wpList_load_agg 44 _ (by with_unfolding_all exact rfl) (by with_unfolding_all exact rfl) (by with_unfolding_all exact rfl) (actC x) (HC.out _ hnw) _ Try.underlying44 (by with_unfolding_all exact rfl) (i44' x) ?_)))
            go_upto_region 16 with (first | ((with_reducible refine wpList_store44 _ _ (by with_unfolding_all exact rfl) (by with_unfolding_all exact rfl) y' (by with_unfolding_all exact rfl) (by with_unfolding_all exact rfl) Y4.out ?_); intro w5 s5 g5; have Y5 := Lib.hid s5; have X5 := Lib.hid (X4.out.other g5 hxy); have N5 := Lib.hid (nw_of_gb N4.out g5 (fun q hq => by injection hq with hq; have := N3.out.size; omega)); have hxb := X5.out.b; have hxn := X5.out.n; have hxt := X5.out.t) | ((with_reducible refine wpList_alloc44 (by with_unfolding_all exact rfl) (by with_unfolding_all exact rfl) ?_); intro gy w4 y4 n4 l4; have Y4 := Lib.hid y4; have N4 := Lib.hid (gb_trans N3.out n4); have X4 := Lib.hid (X3.out.nw n4); have hxy : gx ≠ gy := Nat.ne_of_lt (Nat.lt_of_lt_of_le (Obj1.lt X3.out) l4)) | ((with_reducible refine (HB.out _).mono ?_); rintro e w3 ⟨rfl, n3⟩; have X3 := Lib.hid (X2.out.nw n3); have N3 := Lib.hid (gb_trans N2.out n3)) | ((with_reducible refine wpList_load44 _ (by with_unfolding_all exact rfl) (by with_unfolding_all exact rfl) (by with_unfolding_all exact rfl) X2.out ?_)))
            clear X1 N1 X2 N2 X3 N3 X4 N4 Y4 x1 n1 l1 s2 g2 n3 y4 n4 l4 s5 g5 HB HC
            rcases q0 with _ | _
            · have HG := Lib.hid (show R = false by rw [HF.out, all_false HX.out (by rw [HRA.out]; rfl)])
              clear HF HRA
              go_wp2_with (first | ((with_reducible refine (p3.out _).mono ?_); rintro e w' ⟨rfl, rfl⟩) | ((with_reducible refine (p2.out _).mono ?_); rintro e w' ⟨rfl, rfl⟩) | ((with_reducible refine (p1.out _).mono ?_); rintro e w' ⟨rfl, rfl⟩) | ((with_reducible refine wpList_neq_act _ _ (by with_unfolding_all exact rfl) (by with_unfolding_all exact rfl) (by with_unfolding_all exact rfl) (by with_unfolding_all exact rfl) hl2 hl1 hne ?_)) | ((with_reducible refine wpList_load44 _ (by with_unfolding_all exact rfl) (by with_unfolding_all exact rfl) (by with_unfolding_all exact rfl) Y5.out ?_)) | ((with_reducible refine wpList_load44 _ (by with_unfolding_all exact rfl) (by with_unfolding_all exact rfl) (by with_unfolding_all exact rfl) X5.out ?_)))
              go_ret
              exact ⟨by rw [HG.out]; rfl, gb_trans N0.out N5.out⟩
            rcases (show y' ≠ x ∨ y' = x from Decidable.em _ |>.symm) with hyx | hyx
            · have HG := Lib.hid (show R = false by rw [HF.out, all_false HX.out (by rw [HRA.out, decide_eq_false hyx]; rfl)])
              have hne : (!decide (y' = x)) = true := by rw [decide_eq_false hyx]; rfl
              clear HF HRA hyx
              go_wp2_with (first | ((with_reducible refine (p3.out _).mono ?_); rintro e w' ⟨rfl, rfl⟩) | ((with_reducible refine (p2.out _).mono ?_); rintro e w' ⟨rfl, rfl⟩) | ((with_reducible refine (p1.out _).mono ?_); rintro e w' ⟨rfl, rfl⟩) | ((with_reducible refine wpList_neq_act _ _ (by with_unfolding_all exact rfl) (by with_unfolding_all exact rfl) (by with_unfolding_all exact rfl) (by with_unfolding_all exact rfl) hl2 hl1 hne ?_)) | ((with_reducible refine wpList_load44 _ (by with_unfolding_all exact rfl) (by with_unfolding_all exact rfl) (by with_unfolding_all exact rfl) Y5.out ?_)) | ((with_reducible refine wpList_load44 _ (by with_unfolding_all exact rfl) (by with_unfolding_all exact rfl) (by with_unfolding_all exact rfl) X5.out ?_)))
              go_ret
              exact ⟨by rw [HG.out]; rfl, gb_trans N0.out N5.out⟩
            have hne : (!decide (y' = x)) = false := by rw [decide_eq_true hyx]; rfl
            have HRB := Lib.hid (show rightA x = (q1 && q2 && q3) by rw [HRA.out, decide_eq_true hyx]; rfl)
            clear hyx HRA
            rcases q1 with _ | _
            · have HG := Lib.hid (show R = false by rw [HF.out, all_false HX.out (by rw [HRB.out]; rfl)])
              clear HF HRB
              go_wp2_with (first | ((with_reducible refine (p3.out _).mono ?_); rintro e w' ⟨rfl, rfl⟩) | ((with_reducible refine (p2.out _).mono ?_); rintro e w' ⟨rfl, rfl⟩) | ((with_reducible refine (p1.out _).mono ?_); rintro e w' ⟨rfl, rfl⟩) | ((with_reducible refine wpList_neq_act _ _ (by with_unfolding_all exact rfl) (by with_unfolding_all exact rfl) (by with_unfolding_all exact rfl) (by with_unfolding_all exact rfl) hl2 hl1 hne ?_)) | ((with_reducible refine wpList_load44 _ (by with_unfolding_all exact rfl) (by with_unfolding_all exact rfl) (by with_unfolding_all exact rfl) Y5.out ?_)) | ((with_reducible refine wpList_load44 _ (by with_unfolding_all exact rfl) (by with_unfolding_all exact rfl) (by with_unfolding_all exact rfl) X5.out ?_)))
              go_ret
              exact ⟨by rw [HG.out]; rfl, gb_trans N0.out N5.out⟩
            rcases q2 with _ | _
            · have HG := Lib.hid (show R = false by rw [HF.out, all_false HX.out (by rw [HRB.out]; rfl)])
              clear HF HRB
              go_wp2_with (first | ((with_reducible refine (p3.out _).mono ?_); rintro e w' ⟨rfl, rfl⟩) | ((with_reducible refine (p2.out _).mono ?_); rintro e w' ⟨rfl, rfl⟩) | ((with_reducible refine (p1.out _).mono ?_); rintro e w' ⟨rfl, rfl⟩) | ((with_reducible refine wpList_neq_act _ _ (by with_unfolding_all exact rfl) (by with_unfolding_all exact rfl) (by with_unfolding_all exact rfl) (by with_unfolding_all exact rfl) hl2 hl1 hne ?_)) | ((with_reducible refine wpList_load44 _ (by with_unfolding_all exact rfl) (by with_unfolding_all exact rfl) (by with_unfolding_all exact rfl) Y5.out ?_)) | ((with_reducible refine wpList_load44 _ (by with_unfolding_all exact rfl) (by with_unfolding_all exact rfl) (by with_unfolding_all exact rfl) X5.out ?_)))
              go_ret
              exact ⟨by rw [HG.out]; rfl, gb_trans N0.out N5.out⟩
            rcases q3 with _ | _
            · have HG := Lib.hid (show R = false by rw [HF.out, all_false HX.out (by rw [HRB.out]; rfl)])
              clear HF HRB
              go_wp2_with (first | ((with_reducible refine (p3.out _).mono ?_); rintro e w' ⟨rfl, rfl⟩) | ((with_reducible refine (p2.out _).mono ?_); rintro e w' ⟨rfl, rfl⟩) | ((with_reducible refine (p1.out _).mono ?_); rintro e w' ⟨rfl, rfl⟩) | ((with_reducible refine wpList_neq_act _ _ (by with_unfolding_all exact rfl) (by with_unfolding_all exact rfl) (by with_unfolding_all exact rfl) (by with_unfolding_all exact rfl) hl2 hl1 hne ?_)) | ((with_reducible refine wpList_load44 _ (by with_unfolding_all exact rfl) (by with_unfolding_all exact rfl) (by with_unfolding_all exact rfl) Y5.out ?_)) | ((with_reducible refine wpList_load44 _ (by with_unfolding_all exact rfl) (by with_unfolding_all exact rfl) (by with_unfolding_all exact rfl) X5.out ?_)))
              go_ret
              exact ⟨by rw [HG.out]; rfl, gb_trans N0.out N5.out⟩
            go_wp2_with (first | ((with_reducible refine (p3.out _).mono ?_); rintro e w' ⟨rfl, rfl⟩) | ((with_reducible refine (p2.out _).mono ?_); rintro e w' ⟨rfl, rfl⟩) | ((with_reducible refine (p1.out _).mono ?_); rintro e w' ⟨rfl, rfl⟩) | ((with_reducible refine wpList_neq_act _ _ (by with_unfolding_all exact rfl) (by with_unfolding_all exact rfl) (by with_unfolding_all exact rfl) (by with_unfolding_all exact rfl) hl2 hl1 hne ?_)) | ((with_reducible refine wpList_load44 _ (by with_unfolding_all exact rfl) (by with_unfolding_all exact rfl) (by with_unfolding_all exact rfl) Y5.out ?_)) | ((with_reducible refine wpList_load44 _ (by with_unfolding_all exact rfl) (by with_unfolding_all exact rfl) (by with_unfolding_all exact rfl) X5.out ?_)))
            go_roundw
            case rel => exact ⟨j + 1, by omega, by go_num, Lib.hid (by rw [all_step HX.out, hall.out, HRB.out]; rfl), N5.out⟩
            case measure => simp only [intOf]; omega
        · have hje : j = m := by omega
          subst hje
          have hd2 : decide ((j : Int) < (j : Int)) = false := by simp
          have HG := Lib.hid (show R = true by
            have e := hall.out
            rw [List.take_of_length_le (by rw [HAL.out]; exact Nat.le_refl _)] at e
            rw [HF.out, e])
          clear HF hall
          go_wp2
          go_ret
          exact ⟨by rw [HG.out]; rfl, gb_trans N0.out hnw⟩
end Go.Proofs.Ytmcgfnfhpcddlaa

