/- What the reference's act returns: the kinds 1, 2, 3. -/
import Derived.Test.YtmcgfnfhpcddlaaKA
set_option linter.unusedVariables false
set_option linter.unusedSimpArgs false
namespace Go.Proofs.Ytmcgfnfhpcddlaa
open Go.RowKit Go.BW

set_option maxRecDepth 100000 in
set_option maxHeartbeats 8000000 in
theorem ract_k1 {a : Act} (hoa : ActOk a) (hkk0 : a.k = 1) (w : World) : Calls Try.prog 40 #[.agg (actC a).toArray] w (Ret (.bool (rightA a)) w) := by
  have hbx : ActO (w.alloc (.cells (actC a).toArray 44)) w.heap.size a := Obj1.new w 44 (actC a).toArray
  have hg0 := World.grownBy_alloc w (.cells (actC a).toArray 44) none
  obtain ⟨W, hW⟩ : ∃ V, w.alloc (.cells (actC a).toArray 44) = V := ⟨_, rfl⟩
  obtain ⟨y, hy⟩ : ∃ y, w.heap.size = y := ⟨_, rfl⟩
  rw [hW] at hbx hg0
  rw [hy] at hbx
  have BX := Lib.hid hbx; have N0 := Lib.hid hg0
  have hs := hoa.s
  have hz : z64.length = 64 := by simp [z64]
  have P0 := Lib.hid (fun w' => within2_any a.k 1 10 w')
  have P1 := Lib.hid (fun w' => within2_any a.b 0 255 w')
  have P2 := Lib.hid (fun w' => within2_any a.n 0 (mostN a.k) w')
  have P3 := Lib.hid (fun w' => within2_any a.at' 0 255 w')
  have HSS : ∀ (ww : World), ActO ww y a → ∀ j u, (a.s.map bv)[j]? = some u → ww.cell? ⟨y, 2 + j, none⟩ = some u := fun ww h => by have := h.s; rwa [p64_of hs] at this
  have HS2 := Lib.hid HSS
  have hkk := hbx.k; have hbb := hbx.b; have hnn := hbx.n; have htt := hbx.t; have hmm := hbx.m
  obtain ⟨R, hR⟩ : ∃ R, rightA a = R := ⟨_, rfl⟩
  rw [hR]
  have hRR : R = (inR a.k 1 10 && decide (bareA a = a) && inR a.b 0 255 && inR a.n 0 (mostN a.k) && inR a.at' 0 255) := by rw [← hR]; rfl
  have HR := Lib.hid hRR
  clear hbx hg0 HSS hR hRR hoa
  obtain ⟨k, hk⟩ : ∃ k, a.k = k := ⟨_, rfl⟩
  rw [hk] at hkk P0 P2 HR
  have hk10 : 1 ≤ k ∧ k ≤ 10 := by omega
  have h0 : inR k 1 10 = true := by unfold inR; exact decide_eq_true hk10
  rw [h0] at P0 HR
  obtain ⟨q1, e1⟩ : ∃ q, inR a.b 0 255 = q := ⟨_, rfl⟩
  obtain ⟨q3, e3⟩ : ∃ q, inR a.at' 0 255 = q := ⟨_, rfl⟩
  rw [e1] at P1 HR
  rw [e3] at P3 HR
  clear e1 e3 h0
  obtain rfl : k = 1 := by omega
  clear hkk0
  · have hM : mostN 1 = 255 := rfl
    rw [hM] at P2 HR
    obtain ⟨q2, e2⟩ : ∃ q, inR a.n 0 255 = q := ⟨_, rfl⟩
    rw [e2] at P2 HR
    have HE : decide (bareA a = a) = ((a.n == 0) && (a.at' == 0) && ((a.m : Int) == 0)) := by obtain ⟨ak, ab, asx, an, atx, am⟩ := a; simp only at hk; subst hk; exact bare_eq1 _ _ _ _ _
    rw [HE] at HR
    clear hM e2 HE hk10
    rcases q1 with _ | _
    · have HF := Lib.hid (show R = false by rw [HR.out]; simp)
      clear HR
      go_enter Try.func40, Try.ntmps40
      go_wp2_with (first | (go_at_call 39; (with_reducible refine (P3.out _).mono ?_); rintro e' w' ⟨rfl, rfl⟩) | (go_at_call 39; (with_reducible refine (P2.out _).mono ?_); rintro e' w' ⟨rfl, rfl⟩) | (go_at_call 39; (with_reducible refine (P1.out _).mono ?_); rintro e' w' ⟨rfl, rfl⟩) | (go_at_call 39; (with_reducible refine (P0.out _).mono ?_); rintro e' w' ⟨rfl, rfl⟩))
      go_ret
      exact ⟨by rw [HF.out]; rfl, N0.out⟩
    rcases q2 with _ | _
    · have HF := Lib.hid (show R = false by rw [HR.out]; simp)
      clear HR
      go_enter Try.func40, Try.ntmps40
      go_wp2_with (first | (go_at_call 39; (with_reducible refine (P3.out _).mono ?_); rintro e' w' ⟨rfl, rfl⟩) | (go_at_call 39; (with_reducible refine (P2.out _).mono ?_); rintro e' w' ⟨rfl, rfl⟩) | (go_at_call 39; (with_reducible refine (P1.out _).mono ?_); rintro e' w' ⟨rfl, rfl⟩) | (go_at_call 39; (with_reducible refine (P0.out _).mono ?_); rintro e' w' ⟨rfl, rfl⟩))
      go_ret
      exact ⟨by rw [HF.out]; rfl, N0.out⟩
    rcases q3 with _ | _
    · have HF := Lib.hid (show R = false by rw [HR.out]; simp)
      clear HR
      go_enter Try.func40, Try.ntmps40
      go_wp2_with (first | (go_at_call 39; (with_reducible refine (P3.out _).mono ?_); rintro e' w' ⟨rfl, rfl⟩) | (go_at_call 39; (with_reducible refine (P2.out _).mono ?_); rintro e' w' ⟨rfl, rfl⟩) | (go_at_call 39; (with_reducible refine (P1.out _).mono ?_); rintro e' w' ⟨rfl, rfl⟩) | (go_at_call 39; (with_reducible refine (P0.out _).mono ?_); rintro e' w' ⟨rfl, rfl⟩))
      go_ret
      exact ⟨by rw [HF.out]; rfl, N0.out⟩
    obtain ⟨vn, hvn⟩ : ∃ q, (a.n == 0) = q := ⟨_, rfl⟩
    obtain ⟨vt, hvt⟩ : ∃ q, (a.at' == 0) = q := ⟨_, rfl⟩
    obtain ⟨vm, hvm⟩ : ∃ q, ((a.m : Int) == 0) = q := ⟨_, rfl⟩
    rw [hvn, hvt, hvm] at HR
    rcases vn with _ | _
    · have HF := Lib.hid (show R = false by rw [HR.out]; simp)
      clear HR
      go_enter Try.func40, Try.ntmps40
      go_wp2_with (first | ((with_reducible refine wpList_eql33 _ _ (by with_unfolding_all exact rfl) (by with_unfolding_all exact rfl) (by with_unfolding_all exact rfl) (by with_unfolding_all exact rfl) hs hz hvs ?_)) | ((with_reducible refine wpList_load_obj 33 _ (by with_unfolding_all exact rfl) (by with_unfolding_all exact rfl) (by with_unfolding_all exact rfl) X2.out _ Try.underlying33 (by with_unfolding_all exact rfl) (i33o _ hz) ?_)) | ((with_reducible refine wpList_load_agg 33 _ (by with_unfolding_all exact rfl) (by with_unfolding_all exact rfl) (by with_unfolding_all exact rfl) (a.s.map bv) (HS2.out _ B2.out) _ Try.underlying33 (by with_unfolding_all exact rfl) (i33' hs) ?_)) | ((with_reducible refine wpList_store_obj 33 _ _ (by with_unfolding_all exact rfl) (by with_unfolding_all exact rfl) (z64.map bv) (by with_unfolding_all exact rfl) (by with_unfolding_all exact rfl) (by with_unfolding_all exact rfl) (i33' hz) (sec_one _) X1.out (by rw [List.size_toArray]) ?_); intro w2 s2 g2; have X2 := Lib.hid s2; have B2 := Lib.hid (B1.out.other g2 (Obj1.ne B1.out X1.out (by decide))); have N2 := Lib.hid (nw_of_gb N1.out g2 (fun q hq => by injection hq with hq; omega)); have hkk := B2.out.k; have hbb := B2.out.b; have hnn := B2.out.n; have htt := B2.out.t; have hmm := B2.out.m) | ((with_reducible refine wpList_alloc33 (by with_unfolding_all exact rfl) (by with_unfolding_all exact rfl) ?_); intro gx w1 x1 n1 l1; have X1 := Lib.hid x1; have B1 := Lib.hid (BX.out.nw n1); have N1 := Lib.hid (gb_trans N0.out n1); have hgx : w.heap.size ≤ gx := Nat.le_trans N0.out.size l1) | ((with_reducible refine wpList_build33 (by with_unfolding_all exact rfl) (by with_unfolding_all exact rfl) ?_)) | (go_at_call 39; (with_reducible refine (P3.out _).mono ?_); rintro e' w' ⟨rfl, rfl⟩) | (go_at_call 39; (with_reducible refine (P2.out _).mono ?_); rintro e' w' ⟨rfl, rfl⟩) | (go_at_call 39; (with_reducible refine (P1.out _).mono ?_); rintro e' w' ⟨rfl, rfl⟩) | (go_at_call 39; (with_reducible refine (P0.out _).mono ?_); rintro e' w' ⟨rfl, rfl⟩))
      go_ret
      exact ⟨by rw [HF.out]; rfl, N2.out⟩
    rcases vt with _ | _
    · have HF := Lib.hid (show R = false by rw [HR.out]; simp)
      clear HR
      go_enter Try.func40, Try.ntmps40
      go_wp2_with (first | ((with_reducible refine wpList_eql33 _ _ (by with_unfolding_all exact rfl) (by with_unfolding_all exact rfl) (by with_unfolding_all exact rfl) (by with_unfolding_all exact rfl) hs hz hvs ?_)) | ((with_reducible refine wpList_load_obj 33 _ (by with_unfolding_all exact rfl) (by with_unfolding_all exact rfl) (by with_unfolding_all exact rfl) X2.out _ Try.underlying33 (by with_unfolding_all exact rfl) (i33o _ hz) ?_)) | ((with_reducible refine wpList_load_agg 33 _ (by with_unfolding_all exact rfl) (by with_unfolding_all exact rfl) (by with_unfolding_all exact rfl) (a.s.map bv) (HS2.out _ B2.out) _ Try.underlying33 (by with_unfolding_all exact rfl) (i33' hs) ?_)) | ((with_reducible refine wpList_store_obj 33 _ _ (by with_unfolding_all exact rfl) (by with_unfolding_all exact rfl) (z64.map bv) (by with_unfolding_all exact rfl) (by with_unfolding_all exact rfl) (by with_unfolding_all exact rfl) (i33' hz) (sec_one _) X1.out (by rw [List.size_toArray]) ?_); intro w2 s2 g2; have X2 := Lib.hid s2; have B2 := Lib.hid (B1.out.other g2 (Obj1.ne B1.out X1.out (by decide))); have N2 := Lib.hid (nw_of_gb N1.out g2 (fun q hq => by injection hq with hq; omega)); have hkk := B2.out.k; have hbb := B2.out.b; have hnn := B2.out.n; have htt := B2.out.t; have hmm := B2.out.m) | ((with_reducible refine wpList_alloc33 (by with_unfolding_all exact rfl) (by with_unfolding_all exact rfl) ?_); intro gx w1 x1 n1 l1; have X1 := Lib.hid x1; have B1 := Lib.hid (BX.out.nw n1); have N1 := Lib.hid (gb_trans N0.out n1); have hgx : w.heap.size ≤ gx := Nat.le_trans N0.out.size l1) | ((with_reducible refine wpList_build33 (by with_unfolding_all exact rfl) (by with_unfolding_all exact rfl) ?_)) | (go_at_call 39; (with_reducible refine (P3.out _).mono ?_); rintro e' w' ⟨rfl, rfl⟩) | (go_at_call 39; (with_reducible refine (P2.out _).mono ?_); rintro e' w' ⟨rfl, rfl⟩) | (go_at_call 39; (with_reducible refine (P1.out _).mono ?_); rintro e' w' ⟨rfl, rfl⟩) | (go_at_call 39; (with_reducible refine (P0.out _).mono ?_); rintro e' w' ⟨rfl, rfl⟩))
      go_ret
      exact ⟨by rw [HF.out]; rfl, N2.out⟩
    rcases vm with _ | _
    · have HF := Lib.hid (show R = false by rw [HR.out]; simp)
      clear HR
      go_enter Try.func40, Try.ntmps40
      go_wp2_with (first | ((with_reducible refine wpList_eql33 _ _ (by with_unfolding_all exact rfl) (by with_unfolding_all exact rfl) (by with_unfolding_all exact rfl) (by with_unfolding_all exact rfl) hs hz hvs ?_)) | ((with_reducible refine wpList_load_obj 33 _ (by with_unfolding_all exact rfl) (by with_unfolding_all exact rfl) (by with_unfolding_all exact rfl) X2.out _ Try.underlying33 (by with_unfolding_all exact rfl) (i33o _ hz) ?_)) | ((with_reducible refine wpList_load_agg 33 _ (by with_unfolding_all exact rfl) (by with_unfolding_all exact rfl) (by with_unfolding_all exact rfl) (a.s.map bv) (HS2.out _ B2.out) _ Try.underlying33 (by with_unfolding_all exact rfl) (i33' hs) ?_)) | ((with_reducible refine wpList_store_obj 33 _ _ (by with_unfolding_all exact rfl) (by with_unfolding_all exact rfl) (z64.map bv) (by with_unfolding_all exact rfl) (by with_unfolding_all exact rfl) (by with_unfolding_all exact rfl) (i33' hz) (sec_one _) X1.out (by rw [List.size_toArray]) ?_); intro w2 s2 g2; have X2 := Lib.hid s2; have B2 := Lib.hid (B1.out.other g2 (Obj1.ne B1.out X1.out (by decide))); have N2 := Lib.hid (nw_of_gb N1.out g2 (fun q hq => by injection hq with hq; omega)); have hkk := B2.out.k; have hbb := B2.out.b; have hnn := B2.out.n; have htt := B2.out.t; have hmm := B2.out.m) | ((with_reducible refine wpList_alloc33 (by with_unfolding_all exact rfl) (by with_unfolding_all exact rfl) ?_); intro gx w1 x1 n1 l1; have X1 := Lib.hid x1; have B1 := Lib.hid (BX.out.nw n1); have N1 := Lib.hid (gb_trans N0.out n1); have hgx : w.heap.size ≤ gx := Nat.le_trans N0.out.size l1) | ((with_reducible refine wpList_build33 (by with_unfolding_all exact rfl) (by with_unfolding_all exact rfl) ?_)) | (go_at_call 39; (with_reducible refine (P3.out _).mono ?_); rintro e' w' ⟨rfl, rfl⟩) | (go_at_call 39; (with_reducible refine (P2.out _).mono ?_); rintro e' w' ⟨rfl, rfl⟩) | (go_at_call 39; (with_reducible refine (P1.out _).mono ?_); rintro e' w' ⟨rfl, rfl⟩) | (go_at_call 39; (with_reducible refine (P0.out _).mono ?_); rintro e' w' ⟨rfl, rfl⟩))
      go_ret
      exact ⟨by rw [HF.out]; rfl, N2.out⟩
    have HF := Lib.hid (show R = true by rw [HR.out]; rfl)
    clear HR
    go_enter Try.func40, Try.ntmps40
    go_wp2_with (first | ((with_reducible refine wpList_eql33 _ _ (by with_unfolding_all exact rfl) (by with_unfolding_all exact rfl) (by with_unfolding_all exact rfl) (by with_unfolding_all exact rfl) hs hz hvs ?_)) | ((with_reducible refine wpList_load_obj 33 _ (by with_unfolding_all exact rfl) (by with_unfolding_all exact rfl) (by with_unfolding_all exact rfl) X2.out _ Try.underlying33 (by with_unfolding_all exact rfl) (i33o _ hz) ?_)) | ((with_reducible refine wpList_load_agg 33 _ (by with_unfolding_all exact rfl) (by with_unfolding_all exact rfl) (by with_unfolding_all exact rfl) (a.s.map bv) (HS2.out _ B2.out) _ Try.underlying33 (by with_unfolding_all exact rfl) (i33' hs) ?_)) | ((with_reducible refine wpList_store_obj 33 _ _ (by with_unfolding_all exact rfl) (by with_unfolding_all exact rfl) (z64.map bv) (by with_unfolding_all exact rfl) (by with_unfolding_all exact rfl) (by with_unfolding_all exact rfl) (i33' hz) (sec_one _) X1.out (by rw [List.size_toArray]) ?_); intro w2 s2 g2; have X2 := Lib.hid s2; have B2 := Lib.hid (B1.out.other g2 (Obj1.ne B1.out X1.out (by decide))); have N2 := Lib.hid (nw_of_gb N1.out g2 (fun q hq => by injection hq with hq; omega)); have hkk := B2.out.k; have hbb := B2.out.b; have hnn := B2.out.n; have htt := B2.out.t; have hmm := B2.out.m) | ((with_reducible refine wpList_alloc33 (by with_unfolding_all exact rfl) (by with_unfolding_all exact rfl) ?_); intro gx w1 x1 n1 l1; have X1 := Lib.hid x1; have B1 := Lib.hid (BX.out.nw n1); have N1 := Lib.hid (gb_trans N0.out n1); have hgx : w.heap.size ≤ gx := Nat.le_trans N0.out.size l1) | ((with_reducible refine wpList_build33 (by with_unfolding_all exact rfl) (by with_unfolding_all exact rfl) ?_)) | (go_at_call 39; (with_reducible refine (P3.out _).mono ?_); rintro e' w' ⟨rfl, rfl⟩) | (go_at_call 39; (with_reducible refine (P2.out _).mono ?_); rintro e' w' ⟨rfl, rfl⟩) | (go_at_call 39; (with_reducible refine (P1.out _).mono ?_); rintro e' w' ⟨rfl, rfl⟩) | (go_at_call 39; (with_reducible refine (P0.out _).mono ?_); rintro e' w' ⟨rfl, rfl⟩))
    go_ret
    exact ⟨by rw [HF.out]; rfl, N2.out⟩
set_option maxRecDepth 100000 in
set_option maxHeartbeats 8000000 in
theorem ract_k2 {a : Act} (hoa : ActOk a) (hkk0 : a.k = 2) (w : World) : Calls Try.prog 40 #[.agg (actC a).toArray] w (Ret (.bool (rightA a)) w) := by
  have hbx : ActO (w.alloc (.cells (actC a).toArray 44)) w.heap.size a := Obj1.new w 44 (actC a).toArray
  have hg0 := World.grownBy_alloc w (.cells (actC a).toArray 44) none
  obtain ⟨W, hW⟩ : ∃ V, w.alloc (.cells (actC a).toArray 44) = V := ⟨_, rfl⟩
  obtain ⟨y, hy⟩ : ∃ y, w.heap.size = y := ⟨_, rfl⟩
  rw [hW] at hbx hg0
  rw [hy] at hbx
  have BX := Lib.hid hbx; have N0 := Lib.hid hg0
  have hs := hoa.s
  have hz : z64.length = 64 := by simp [z64]
  have P0 := Lib.hid (fun w' => within2_any a.k 1 10 w')
  have P1 := Lib.hid (fun w' => within2_any a.b 0 255 w')
  have P2 := Lib.hid (fun w' => within2_any a.n 0 (mostN a.k) w')
  have P3 := Lib.hid (fun w' => within2_any a.at' 0 255 w')
  have HSS : ∀ (ww : World), ActO ww y a → ∀ j u, (a.s.map bv)[j]? = some u → ww.cell? ⟨y, 2 + j, none⟩ = some u := fun ww h => by have := h.s; rwa [p64_of hs] at this
  have HS2 := Lib.hid HSS
  have hkk := hbx.k; have hbb := hbx.b; have hnn := hbx.n; have htt := hbx.t; have hmm := hbx.m
  obtain ⟨R, hR⟩ : ∃ R, rightA a = R := ⟨_, rfl⟩
  rw [hR]
  have hRR : R = (inR a.k 1 10 && decide (bareA a = a) && inR a.b 0 255 && inR a.n 0 (mostN a.k) && inR a.at' 0 255) := by rw [← hR]; rfl
  have HR := Lib.hid hRR
  clear hbx hg0 HSS hR hRR hoa
  obtain ⟨k, hk⟩ : ∃ k, a.k = k := ⟨_, rfl⟩
  rw [hk] at hkk P0 P2 HR
  have hk10 : 1 ≤ k ∧ k ≤ 10 := by omega
  have h0 : inR k 1 10 = true := by unfold inR; exact decide_eq_true hk10
  rw [h0] at P0 HR
  obtain ⟨q1, e1⟩ : ∃ q, inR a.b 0 255 = q := ⟨_, rfl⟩
  obtain ⟨q3, e3⟩ : ∃ q, inR a.at' 0 255 = q := ⟨_, rfl⟩
  rw [e1] at P1 HR
  rw [e3] at P3 HR
  clear e1 e3 h0
  obtain rfl : k = 2 := by omega
  clear hkk0
  · have hM : mostN 2 = 255 := rfl
    rw [hM] at P2 HR
    obtain ⟨q2, e2⟩ : ∃ q, inR a.n 0 255 = q := ⟨_, rfl⟩
    rw [e2] at P2 HR
    have HE : decide (bareA a = a) = ((a.n == 0) && (a.at' == 0) && ((a.m : Int) == 0) && decide (a.s = z64)) := by obtain ⟨ak, ab, asx, an, atx, am⟩ := a; simp only at hk; subst hk; exact bare_eq2 _ _ _ _ _
    rw [HE] at HR
    clear hM e2 HE hk10
    rcases q1 with _ | _
    · have HF := Lib.hid (show R = false by rw [HR.out]; simp)
      clear HR
      go_enter Try.func40, Try.ntmps40
      go_wp2_with (first | (go_at_call 39; (with_reducible refine (P3.out _).mono ?_); rintro e' w' ⟨rfl, rfl⟩) | (go_at_call 39; (with_reducible refine (P2.out _).mono ?_); rintro e' w' ⟨rfl, rfl⟩) | (go_at_call 39; (with_reducible refine (P1.out _).mono ?_); rintro e' w' ⟨rfl, rfl⟩) | (go_at_call 39; (with_reducible refine (P0.out _).mono ?_); rintro e' w' ⟨rfl, rfl⟩))
      go_ret
      exact ⟨by rw [HF.out]; rfl, N0.out⟩
    rcases q2 with _ | _
    · have HF := Lib.hid (show R = false by rw [HR.out]; simp)
      clear HR
      go_enter Try.func40, Try.ntmps40
      go_wp2_with (first | (go_at_call 39; (with_reducible refine (P3.out _).mono ?_); rintro e' w' ⟨rfl, rfl⟩) | (go_at_call 39; (with_reducible refine (P2.out _).mono ?_); rintro e' w' ⟨rfl, rfl⟩) | (go_at_call 39; (with_reducible refine (P1.out _).mono ?_); rintro e' w' ⟨rfl, rfl⟩) | (go_at_call 39; (with_reducible refine (P0.out _).mono ?_); rintro e' w' ⟨rfl, rfl⟩))
      go_ret
      exact ⟨by rw [HF.out]; rfl, N0.out⟩
    rcases q3 with _ | _
    · have HF := Lib.hid (show R = false by rw [HR.out]; simp)
      clear HR
      go_enter Try.func40, Try.ntmps40
      go_wp2_with (first | (go_at_call 39; (with_reducible refine (P3.out _).mono ?_); rintro e' w' ⟨rfl, rfl⟩) | (go_at_call 39; (with_reducible refine (P2.out _).mono ?_); rintro e' w' ⟨rfl, rfl⟩) | (go_at_call 39; (with_reducible refine (P1.out _).mono ?_); rintro e' w' ⟨rfl, rfl⟩) | (go_at_call 39; (with_reducible refine (P0.out _).mono ?_); rintro e' w' ⟨rfl, rfl⟩))
      go_ret
      exact ⟨by rw [HF.out]; rfl, N0.out⟩
    obtain ⟨vn, hvn⟩ : ∃ q, (a.n == 0) = q := ⟨_, rfl⟩
    obtain ⟨vt, hvt⟩ : ∃ q, (a.at' == 0) = q := ⟨_, rfl⟩
    obtain ⟨vm, hvm⟩ : ∃ q, ((a.m : Int) == 0) = q := ⟨_, rfl⟩
    obtain ⟨vs, hvs⟩ : ∃ q, decide (a.s = z64) = q := ⟨_, rfl⟩
    rw [hvn, hvt, hvm, hvs] at HR
    rcases vn with _ | _
    · have HF := Lib.hid (show R = false by rw [HR.out]; simp)
      clear HR
      go_enter Try.func40, Try.ntmps40
      go_wp2_with (first | ((with_reducible refine wpList_eql33 _ _ (by with_unfolding_all exact rfl) (by with_unfolding_all exact rfl) (by with_unfolding_all exact rfl) (by with_unfolding_all exact rfl) hs hz hvs ?_)) | ((with_reducible refine wpList_load_obj 33 _ (by with_unfolding_all exact rfl) (by with_unfolding_all exact rfl) (by with_unfolding_all exact rfl) X2.out _ Try.underlying33 (by with_unfolding_all exact rfl) (i33o _ hz) ?_)) | ((with_reducible refine wpList_load_agg 33 _ (by with_unfolding_all exact rfl) (by with_unfolding_all exact rfl) (by with_unfolding_all exact rfl) (a.s.map bv) (HS2.out _ B2.out) _ Try.underlying33 (by with_unfolding_all exact rfl) (i33' hs) ?_)) | ((with_reducible refine wpList_store_obj 33 _ _ (by with_unfolding_all exact rfl) (by with_unfolding_all exact rfl) (z64.map bv) (by with_unfolding_all exact rfl) (by with_unfolding_all exact rfl) (by with_unfolding_all exact rfl) (i33' hz) (sec_one _) X1.out (by rw [List.size_toArray]) ?_); intro w2 s2 g2; have X2 := Lib.hid s2; have B2 := Lib.hid (B1.out.other g2 (Obj1.ne B1.out X1.out (by decide))); have N2 := Lib.hid (nw_of_gb N1.out g2 (fun q hq => by injection hq with hq; omega)); have hkk := B2.out.k; have hbb := B2.out.b; have hnn := B2.out.n; have htt := B2.out.t; have hmm := B2.out.m) | ((with_reducible refine wpList_alloc33 (by with_unfolding_all exact rfl) (by with_unfolding_all exact rfl) ?_); intro gx w1 x1 n1 l1; have X1 := Lib.hid x1; have B1 := Lib.hid (BX.out.nw n1); have N1 := Lib.hid (gb_trans N0.out n1); have hgx : w.heap.size ≤ gx := Nat.le_trans N0.out.size l1) | ((with_reducible refine wpList_build33 (by with_unfolding_all exact rfl) (by with_unfolding_all exact rfl) ?_)) | (go_at_call 39; (with_reducible refine (P3.out _).mono ?_); rintro e' w' ⟨rfl, rfl⟩) | (go_at_call 39; (with_reducible refine (P2.out _).mono ?_); rintro e' w' ⟨rfl, rfl⟩) | (go_at_call 39; (with_reducible refine (P1.out _).mono ?_); rintro e' w' ⟨rfl, rfl⟩) | (go_at_call 39; (with_reducible refine (P0.out _).mono ?_); rintro e' w' ⟨rfl, rfl⟩))
      go_ret
      exact ⟨by rw [HF.out]; rfl, N2.out⟩
    rcases vt with _ | _
    · have HF := Lib.hid (show R = false by rw [HR.out]; simp)
      clear HR
      go_enter Try.func40, Try.ntmps40
      go_wp2_with (first | ((with_reducible refine wpList_eql33 _ _ (by with_unfolding_all exact rfl) (by with_unfolding_all exact rfl) (by with_unfolding_all exact rfl) (by with_unfolding_all exact rfl) hs hz hvs ?_)) | ((with_reducible refine wpList_load_obj 33 _ (by with_unfolding_all exact rfl) (by with_unfolding_all exact rfl) (by with_unfolding_all exact rfl) X2.out _ Try.underlying33 (by with_unfolding_all exact rfl) (i33o _ hz) ?_)) | ((with_reducible refine wpList_load_agg 33 _ (by with_unfolding_all exact rfl) (by with_unfolding_all exact rfl) (by with_unfolding_all exact rfl) (a.s.map bv) (HS2.out _ B2.out) _ Try.underlying33 (by with_unfolding_all exact rfl) (i33' hs) ?_)) | ((with_reducible refine wpList_store_obj 33 _ _ (by with_unfolding_all exact rfl) (by with_unfolding_all exact rfl) (z64.map bv) (by with_unfolding_all exact rfl) (by with_unfolding_all exact rfl) (by with_unfolding_all exact rfl) (i33' hz) (sec_one _) X1.out (by rw [List.size_toArray]) ?_); intro w2 s2 g2; have X2 := Lib.hid s2; have B2 := Lib.hid (B1.out.other g2 (Obj1.ne B1.out X1.out (by decide))); have N2 := Lib.hid (nw_of_gb N1.out g2 (fun q hq => by injection hq with hq; omega)); have hkk := B2.out.k; have hbb := B2.out.b; have hnn := B2.out.n; have htt := B2.out.t; have hmm := B2.out.m) | ((with_reducible refine wpList_alloc33 (by with_unfolding_all exact rfl) (by with_unfolding_all exact rfl) ?_); intro gx w1 x1 n1 l1; have X1 := Lib.hid x1; have B1 := Lib.hid (BX.out.nw n1); have N1 := Lib.hid (gb_trans N0.out n1); have hgx : w.heap.size ≤ gx := Nat.le_trans N0.out.size l1) | ((with_reducible refine wpList_build33 (by with_unfolding_all exact rfl) (by with_unfolding_all exact rfl) ?_)) | (go_at_call 39; (with_reducible refine (P3.out _).mono ?_); rintro e' w' ⟨rfl, rfl⟩) | (go_at_call 39; (with_reducible refine (P2.out _).mono ?_); rintro e' w' ⟨rfl, rfl⟩) | (go_at_call 39; (with_reducible refine (P1.out _).mono ?_); rintro e' w' ⟨rfl, rfl⟩) | (go_at_call 39; (with_reducible refine (P0.out _).mono ?_); rintro e' w' ⟨rfl, rfl⟩))
      go_ret
      exact ⟨by rw [HF.out]; rfl, N2.out⟩
    rcases vm with _ | _
    · have HF := Lib.hid (show R = false by rw [HR.out]; simp)
      clear HR
      go_enter Try.func40, Try.ntmps40
      go_wp2_with (first | ((with_reducible refine wpList_eql33 _ _ (by with_unfolding_all exact rfl) (by with_unfolding_all exact rfl) (by with_unfolding_all exact rfl) (by with_unfolding_all exact rfl) hs hz hvs ?_)) | ((with_reducible refine wpList_load_obj 33 _ (by with_unfolding_all exact rfl) (by with_unfolding_all exact rfl) (by with_unfolding_all exact rfl) X2.out _ Try.underlying33 (by with_unfolding_all exact rfl) (i33o _ hz) ?_)) | ((with_reducible refine wpList_load_agg 33 _ (by with_unfolding_all exact rfl) (by with_unfolding_all exact rfl) (by with_unfolding_all exact rfl) (a.s.map bv) (HS2.out _ B2.out) _ Try.underlying33 (by with_unfolding_all exact rfl) (i33' hs) ?_)) | ((with_reducible refine wpList_store_obj 33 _ _ (by with_unfolding_all exact rfl) (by with_unfolding_all exact rfl) (z64.map bv) (by with_unfolding_all exact rfl) (by with_unfolding_all exact rfl) (by with_unfolding_all exact rfl) (i33' hz) (sec_one _) X1.out (by rw [List.size_toArray]) ?_); intro w2 s2 g2; have X2 := Lib.hid s2; have B2 := Lib.hid (B1.out.other g2 (Obj1.ne B1.out X1.out (by decide))); have N2 := Lib.hid (nw_of_gb N1.out g2 (fun q hq => by injection hq with hq; omega)); have hkk := B2.out.k; have hbb := B2.out.b; have hnn := B2.out.n; have htt := B2.out.t; have hmm := B2.out.m) | ((with_reducible refine wpList_alloc33 (by with_unfolding_all exact rfl) (by with_unfolding_all exact rfl) ?_); intro gx w1 x1 n1 l1; have X1 := Lib.hid x1; have B1 := Lib.hid (BX.out.nw n1); have N1 := Lib.hid (gb_trans N0.out n1); have hgx : w.heap.size ≤ gx := Nat.le_trans N0.out.size l1) | ((with_reducible refine wpList_build33 (by with_unfolding_all exact rfl) (by with_unfolding_all exact rfl) ?_)) | (go_at_call 39; (with_reducible refine (P3.out _).mono ?_); rintro e' w' ⟨rfl, rfl⟩) | (go_at_call 39; (with_reducible refine (P2.out _).mono ?_); rintro e' w' ⟨rfl, rfl⟩) | (go_at_call 39; (with_reducible refine (P1.out _).mono ?_); rintro e' w' ⟨rfl, rfl⟩) | (go_at_call 39; (with_reducible refine (P0.out _).mono ?_); rintro e' w' ⟨rfl, rfl⟩))
      go_ret
      exact ⟨by rw [HF.out]; rfl, N2.out⟩
    rcases vs with _ | _
    · have HF := Lib.hid (show R = false by rw [HR.out]; simp)
      clear HR
      go_enter Try.func40, Try.ntmps40
      go_wp2_with (first | ((with_reducible refine wpList_eql33 _ _ (by with_unfolding_all exact rfl) (by with_unfolding_all exact rfl) (by with_unfolding_all exact rfl) (by with_unfolding_all exact rfl) hs hz hvs ?_)) | ((with_reducible refine wpList_load_obj 33 _ (by with_unfolding_all exact rfl) (by with_unfolding_all exact rfl) (by with_unfolding_all exact rfl) X2.out _ Try.underlying33 (by with_unfolding_all exact rfl) (i33o _ hz) ?_)) | ((with_reducible refine wpList_load_agg 33 _ (by with_unfolding_all exact rfl) (by with_unfolding_all exact rfl) (by with_unfolding_all exact rfl) (a.s.map bv) (HS2.out _ B2.out) _ Try.underlying33 (by with_unfolding_all exact rfl) (i33' hs) ?_)) | ((with_reducible refine wpList_store_obj 33 _ _ (by with_unfolding_all exact rfl) (by with_unfolding_all exact rfl) (z64.map bv) (by with_unfolding_all exact rfl) (by with_unfolding_all exact rfl) (by with_unfolding_all exact rfl) (i33' hz) (sec_one _) X1.out (by rw [List.size_toArray]) ?_); intro w2 s2 g2; have X2 := Lib.hid s2; have B2 := Lib.hid (B1.out.other g2 (Obj1.ne B1.out X1.out (by decide))); have N2 := Lib.hid (nw_of_gb N1.out g2 (fun q hq => by injection hq with hq; omega)); have hkk := B2.out.k; have hbb := B2.out.b; have hnn := B2.out.n; have htt := B2.out.t; have hmm := B2.out.m) | ((with_reducible refine wpList_alloc33 (by with_unfolding_all exact rfl) (by with_unfolding_all exact rfl) ?_); intro gx w1 x1 n1 l1; have X1 := Lib.hid x1; have B1 := Lib.hid (BX.out.nw n1); have N1 := Lib.hid (gb_trans N0.out n1); have hgx : w.heap.size ≤ gx := Nat.le_trans N0.out.size l1) | ((with_reducible refine wpList_build33 (by with_unfolding_all exact rfl) (by with_unfolding_all exact rfl) ?_)) | (go_at_call 39; (with_reducible refine (P3.out _).mono ?_); rintro e' w' ⟨rfl, rfl⟩) | (go_at_call 39; (with_reducible refine (P2.out _).mono ?_); rintro e' w' ⟨rfl, rfl⟩) | (go_at_call 39; (with_reducible refine (P1.out _).mono ?_); rintro e' w' ⟨rfl, rfl⟩) | (go_at_call 39; (with_reducible refine (P0.out _).mono ?_); rintro e' w' ⟨rfl, rfl⟩))
      go_ret
      exact ⟨by rw [HF.out]; rfl, N2.out⟩
    have HF := Lib.hid (show R = true by rw [HR.out]; rfl)
    clear HR
    go_enter Try.func40, Try.ntmps40
    go_wp2_with (first | ((with_reducible refine wpList_eql33 _ _ (by with_unfolding_all exact rfl) (by with_unfolding_all exact rfl) (by with_unfolding_all exact rfl) (by with_unfolding_all exact rfl) hs hz hvs ?_)) | ((with_reducible refine wpList_load_obj 33 _ (by with_unfolding_all exact rfl) (by with_unfolding_all exact rfl) (by with_unfolding_all exact rfl) X2.out _ Try.underlying33 (by with_unfolding_all exact rfl) (i33o _ hz) ?_)) | ((with_reducible refine wpList_load_agg 33 _ (by with_unfolding_all exact rfl) (by with_unfolding_all exact rfl) (by with_unfolding_all exact rfl) (a.s.map bv) (HS2.out _ B2.out) _ Try.underlying33 (by with_unfolding_all exact rfl) (i33' hs) ?_)) | ((with_reducible refine wpList_store_obj 33 _ _ (by with_unfolding_all exact rfl) (by with_unfolding_all exact rfl) (z64.map bv) (by with_unfolding_all exact rfl) (by with_unfolding_all exact rfl) (by with_unfolding_all exact rfl) (i33' hz) (sec_one _) X1.out (by rw [List.size_toArray]) ?_); intro w2 s2 g2; have X2 := Lib.hid s2; have B2 := Lib.hid (B1.out.other g2 (Obj1.ne B1.out X1.out (by decide))); have N2 := Lib.hid (nw_of_gb N1.out g2 (fun q hq => by injection hq with hq; omega)); have hkk := B2.out.k; have hbb := B2.out.b; have hnn := B2.out.n; have htt := B2.out.t; have hmm := B2.out.m) | ((with_reducible refine wpList_alloc33 (by with_unfolding_all exact rfl) (by with_unfolding_all exact rfl) ?_); intro gx w1 x1 n1 l1; have X1 := Lib.hid x1; have B1 := Lib.hid (BX.out.nw n1); have N1 := Lib.hid (gb_trans N0.out n1); have hgx : w.heap.size ≤ gx := Nat.le_trans N0.out.size l1) | ((with_reducible refine wpList_build33 (by with_unfolding_all exact rfl) (by with_unfolding_all exact rfl) ?_)) | (go_at_call 39; (with_reducible refine (P3.out _).mono ?_); rintro e' w' ⟨rfl, rfl⟩) | (go_at_call 39; (with_reducible refine (P2.out _).mono ?_); rintro e' w' ⟨rfl, rfl⟩) | (go_at_call 39; (with_reducible refine (P1.out _).mono ?_); rintro e' w' ⟨rfl, rfl⟩) | (go_at_call 39; (with_reducible refine (P0.out _).mono ?_); rintro e' w' ⟨rfl, rfl⟩))
    go_ret
    exact ⟨by rw [HF.out]; rfl, N2.out⟩
set_option maxRecDepth 100000 in
set_option maxHeartbeats 8000000 in
theorem ract_k3 {a : Act} (hoa : ActOk a) (hkk0 : a.k = 3) (w : World) : Calls Try.prog 40 #[.agg (actC a).toArray] w (Ret (.bool (rightA a)) w) := by
  have hbx : ActO (w.alloc (.cells (actC a).toArray 44)) w.heap.size a := Obj1.new w 44 (actC a).toArray
  have hg0 := World.grownBy_alloc w (.cells (actC a).toArray 44) none
  obtain ⟨W, hW⟩ : ∃ V, w.alloc (.cells (actC a).toArray 44) = V := ⟨_, rfl⟩
  obtain ⟨y, hy⟩ : ∃ y, w.heap.size = y := ⟨_, rfl⟩
  rw [hW] at hbx hg0
  rw [hy] at hbx
  have BX := Lib.hid hbx; have N0 := Lib.hid hg0
  have hs := hoa.s
  have hz : z64.length = 64 := by simp [z64]
  have P0 := Lib.hid (fun w' => within2_any a.k 1 10 w')
  have P1 := Lib.hid (fun w' => within2_any a.b 0 255 w')
  have P2 := Lib.hid (fun w' => within2_any a.n 0 (mostN a.k) w')
  have P3 := Lib.hid (fun w' => within2_any a.at' 0 255 w')
  have HSS : ∀ (ww : World), ActO ww y a → ∀ j u, (a.s.map bv)[j]? = some u → ww.cell? ⟨y, 2 + j, none⟩ = some u := fun ww h => by have := h.s; rwa [p64_of hs] at this
  have HS2 := Lib.hid HSS
  have hkk := hbx.k; have hbb := hbx.b; have hnn := hbx.n; have htt := hbx.t; have hmm := hbx.m
  obtain ⟨R, hR⟩ : ∃ R, rightA a = R := ⟨_, rfl⟩
  rw [hR]
  have hRR : R = (inR a.k 1 10 && decide (bareA a = a) && inR a.b 0 255 && inR a.n 0 (mostN a.k) && inR a.at' 0 255) := by rw [← hR]; rfl
  have HR := Lib.hid hRR
  clear hbx hg0 HSS hR hRR hoa
  obtain ⟨k, hk⟩ : ∃ k, a.k = k := ⟨_, rfl⟩
  rw [hk] at hkk P0 P2 HR
  have hk10 : 1 ≤ k ∧ k ≤ 10 := by omega
  have h0 : inR k 1 10 = true := by unfold inR; exact decide_eq_true hk10
  rw [h0] at P0 HR
  obtain ⟨q1, e1⟩ : ∃ q, inR a.b 0 255 = q := ⟨_, rfl⟩
  obtain ⟨q3, e3⟩ : ∃ q, inR a.at' 0 255 = q := ⟨_, rfl⟩
  rw [e1] at P1 HR
  rw [e3] at P3 HR
  clear e1 e3 h0
  obtain rfl : k = 3 := by omega
  clear hkk0
  · have hM : mostN 3 = 255 := rfl
    rw [hM] at P2 HR
    obtain ⟨q2, e2⟩ : ∃ q, inR a.n 0 255 = q := ⟨_, rfl⟩
    rw [e2] at P2 HR
    have HE : decide (bareA a = a) = ((a.b == 0) && (a.n == 0) && (a.at' == 0) && ((a.m : Int) == 0) && decide (a.s = z64)) := by obtain ⟨ak, ab, asx, an, atx, am⟩ := a; simp only at hk; subst hk; exact bare_eq3 _ _ _ _ _
    rw [HE] at HR
    clear hM e2 HE hk10
    rcases q1 with _ | _
    · have HF := Lib.hid (show R = false by rw [HR.out]; simp)
      clear HR
      go_enter Try.func40, Try.ntmps40
      go_wp2_with (first | (go_at_call 39; (with_reducible refine (P3.out _).mono ?_); rintro e' w' ⟨rfl, rfl⟩) | (go_at_call 39; (with_reducible refine (P2.out _).mono ?_); rintro e' w' ⟨rfl, rfl⟩) | (go_at_call 39; (with_reducible refine (P1.out _).mono ?_); rintro e' w' ⟨rfl, rfl⟩) | (go_at_call 39; (with_reducible refine (P0.out _).mono ?_); rintro e' w' ⟨rfl, rfl⟩))
      go_ret
      exact ⟨by rw [HF.out]; rfl, N0.out⟩
    rcases q2 with _ | _
    · have HF := Lib.hid (show R = false by rw [HR.out]; simp)
      clear HR
      go_enter Try.func40, Try.ntmps40
      go_wp2_with (first | (go_at_call 39; (with_reducible refine (P3.out _).mono ?_); rintro e' w' ⟨rfl, rfl⟩) | (go_at_call 39; (with_reducible refine (P2.out _).mono ?_); rintro e' w' ⟨rfl, rfl⟩) | (go_at_call 39; (with_reducible refine (P1.out _).mono ?_); rintro e' w' ⟨rfl, rfl⟩) | (go_at_call 39; (with_reducible refine (P0.out _).mono ?_); rintro e' w' ⟨rfl, rfl⟩))
      go_ret
      exact ⟨by rw [HF.out]; rfl, N0.out⟩
    rcases q3 with _ | _
    · have HF := Lib.hid (show R = false by rw [HR.out]; simp)
      clear HR
      go_enter Try.func40, Try.ntmps40
      go_wp2_with (first | (go_at_call 39; (with_reducible refine (P3.out _).mono ?_); rintro e' w' ⟨rfl, rfl⟩) | (go_at_call 39; (with_reducible refine (P2.out _).mono ?_); rintro e' w' ⟨rfl, rfl⟩) | (go_at_call 39; (with_reducible refine (P1.out _).mono ?_); rintro e' w' ⟨rfl, rfl⟩) | (go_at_call 39; (with_reducible refine (P0.out _).mono ?_); rintro e' w' ⟨rfl, rfl⟩))
      go_ret
      exact ⟨by rw [HF.out]; rfl, N0.out⟩
    obtain ⟨vb, hvb⟩ : ∃ q, (a.b == 0) = q := ⟨_, rfl⟩
    obtain ⟨vn, hvn⟩ : ∃ q, (a.n == 0) = q := ⟨_, rfl⟩
    obtain ⟨vt, hvt⟩ : ∃ q, (a.at' == 0) = q := ⟨_, rfl⟩
    obtain ⟨vm, hvm⟩ : ∃ q, ((a.m : Int) == 0) = q := ⟨_, rfl⟩
    obtain ⟨vs, hvs⟩ : ∃ q, decide (a.s = z64) = q := ⟨_, rfl⟩
    rw [hvb, hvn, hvt, hvm, hvs] at HR
    rcases vb with _ | _
    · have HF := Lib.hid (show R = false by rw [HR.out]; simp)
      clear HR
      go_enter Try.func40, Try.ntmps40
      go_wp2_with (first | ((with_reducible refine wpList_eql33 _ _ (by with_unfolding_all exact rfl) (by with_unfolding_all exact rfl) (by with_unfolding_all exact rfl) (by with_unfolding_all exact rfl) hs hz hvs ?_)) | ((with_reducible refine wpList_load_obj 33 _ (by with_unfolding_all exact rfl) (by with_unfolding_all exact rfl) (by with_unfolding_all exact rfl) X2.out _ Try.underlying33 (by with_unfolding_all exact rfl) (i33o _ hz) ?_)) | ((with_reducible refine wpList_load_agg 33 _ (by with_unfolding_all exact rfl) (by with_unfolding_all exact rfl) (by with_unfolding_all exact rfl) (a.s.map bv) (HS2.out _ B2.out) _ Try.underlying33 (by with_unfolding_all exact rfl) (i33' hs) ?_)) | ((with_reducible refine wpList_store_obj 33 _ _ (by with_unfolding_all exact rfl) (by with_unfolding_all exact rfl) (z64.map bv) (by with_unfolding_all exact rfl) (by with_unfolding_all exact rfl) (by with_unfolding_all exact rfl) (i33' hz) (sec_one _) X1.out (by rw [List.size_toArray]) ?_); intro w2 s2 g2; have X2 := Lib.hid s2; have B2 := Lib.hid (B1.out.other g2 (Obj1.ne B1.out X1.out (by decide))); have N2 := Lib.hid (nw_of_gb N1.out g2 (fun q hq => by injection hq with hq; omega)); have hkk := B2.out.k; have hbb := B2.out.b; have hnn := B2.out.n; have htt := B2.out.t; have hmm := B2.out.m) | ((with_reducible refine wpList_alloc33 (by with_unfolding_all exact rfl) (by with_unfolding_all exact rfl) ?_); intro gx w1 x1 n1 l1; have X1 := Lib.hid x1; have B1 := Lib.hid (BX.out.nw n1); have N1 := Lib.hid (gb_trans N0.out n1); have hgx : w.heap.size ≤ gx := Nat.le_trans N0.out.size l1) | ((with_reducible refine wpList_build33 (by with_unfolding_all exact rfl) (by with_unfolding_all exact rfl) ?_)) | (go_at_call 39; (with_reducible refine (P3.out _).mono ?_); rintro e' w' ⟨rfl, rfl⟩) | (go_at_call 39; (with_reducible refine (P2.out _).mono ?_); rintro e' w' ⟨rfl, rfl⟩) | (go_at_call 39; (with_reducible refine (P1.out _).mono ?_); rintro e' w' ⟨rfl, rfl⟩) | (go_at_call 39; (with_reducible refine (P0.out _).mono ?_); rintro e' w' ⟨rfl, rfl⟩))
      go_ret
      exact ⟨by rw [HF.out]; rfl, N2.out⟩
    rcases vn with _ | _
    · have HF := Lib.hid (show R = false by rw [HR.out]; simp)
      clear HR
      go_enter Try.func40, Try.ntmps40
      go_wp2_with (first | ((with_reducible refine wpList_eql33 _ _ (by with_unfolding_all exact rfl) (by with_unfolding_all exact rfl) (by with_unfolding_all exact rfl) (by with_unfolding_all exact rfl) hs hz hvs ?_)) | ((with_reducible refine wpList_load_obj 33 _ (by with_unfolding_all exact rfl) (by with_unfolding_all exact rfl) (by with_unfolding_all exact rfl) X2.out _ Try.underlying33 (by with_unfolding_all exact rfl) (i33o _ hz) ?_)) | ((with_reducible refine wpList_load_agg 33 _ (by with_unfolding_all exact rfl) (by with_unfolding_all exact rfl) (by with_unfolding_all exact rfl) (a.s.map bv) (HS2.out _ B2.out) _ Try.underlying33 (by with_unfolding_all exact rfl) (i33' hs) ?_)) | ((with_reducible refine wpList_store_obj 33 _ _ (by with_unfolding_all exact rfl) (by with_unfolding_all exact rfl) (z64.map bv) (by with_unfolding_all exact rfl) (by with_unfolding_all exact rfl) (by with_unfolding_all exact rfl) (i33' hz) (sec_one _) X1.out (by rw [List.size_toArray]) ?_); intro w2 s2 g2; have X2 := Lib.hid s2; have B2 := Lib.hid (B1.out.other g2 (Obj1.ne B1.out X1.out (by decide))); have N2 := Lib.hid (nw_of_gb N1.out g2 (fun q hq => by injection hq with hq; omega)); have hkk := B2.out.k; have hbb := B2.out.b; have hnn := B2.out.n; have htt := B2.out.t; have hmm := B2.out.m) | ((with_reducible refine wpList_alloc33 (by with_unfolding_all exact rfl) (by with_unfolding_all exact rfl) ?_); intro gx w1 x1 n1 l1; have X1 := Lib.hid x1; have B1 := Lib.hid (BX.out.nw n1); have N1 := Lib.hid (gb_trans N0.out n1); have hgx : w.heap.size ≤ gx := Nat.le_trans N0.out.size l1) | ((with_reducible refine wpList_build33 (by with_unfolding_all exact rfl) (by with_unfolding_all exact rfl) ?_)) | (go_at_call 39; (with_reducible refine (P3.out _).mono ?_); rintro e' w' ⟨rfl, rfl⟩) | (go_at_call 39; (with_reducible refine (P2.out _).mono ?_); rintro e' w' ⟨rfl, rfl⟩) | (go_at_call 39; (with_reducible refine (P1.out _).mono ?_); rintro e' w' ⟨rfl, rfl⟩) | (go_at_call 39; (with_reducible refine (P0.out _).mono ?_); rintro e' w' ⟨rfl, rfl⟩))
      go_ret
      exact ⟨by rw [HF.out]; rfl, N2.out⟩
    rcases vt with _ | _
    · have HF := Lib.hid (show R = false by rw [HR.out]; simp)
      clear HR
      go_enter Try.func40, Try.ntmps40
      go_wp2_with (first | ((with_reducible refine wpList_eql33 _ _ (by with_unfolding_all exact rfl) (by with_unfolding_all exact rfl) (by with_unfolding_all exact rfl) (by with_unfolding_all exact rfl) hs hz hvs ?_)) | ((with_reducible refine wpList_load_obj 33 _ (by with_unfolding_all exact rfl) (by with_unfolding_all exact rfl) (by with_unfolding_all exact rfl) X2.out _ Try.underlying33 (by with_unfolding_all exact rfl) (i33o _ hz) ?_)) | ((with_reducible refine wpList_load_agg 33 _ (by with_unfolding_all exact rfl) (by with_unfolding_all exact rfl) (by with_unfolding_all exact rfl) (a.s.map bv) (HS2.out _ B2.out) _ Try.underlying33 (by with_unfolding_all exact rfl) (i33' hs) ?_)) | ((with_reducible refine wpList_store_obj 33 _ _ (by with_unfolding_all exact rfl) (by with_unfolding_all exact rfl) (z64.map bv) (by with_unfolding_all exact rfl) (by with_unfolding_all exact rfl) (by with_unfolding_all exact rfl) (i33' hz) (sec_one _) X1.out (by rw [List.size_toArray]) ?_); intro w2 s2 g2; have X2 := Lib.hid s2; have B2 := Lib.hid (B1.out.other g2 (Obj1.ne B1.out X1.out (by decide))); have N2 := Lib.hid (nw_of_gb N1.out g2 (fun q hq => by injection hq with hq; omega)); have hkk := B2.out.k; have hbb := B2.out.b; have hnn := B2.out.n; have htt := B2.out.t; have hmm := B2.out.m) | ((with_reducible refine wpList_alloc33 (by with_unfolding_all exact rfl) (by with_unfolding_all exact rfl) ?_); intro gx w1 x1 n1 l1; have X1 := Lib.hid x1; have B1 := Lib.hid (BX.out.nw n1); have N1 := Lib.hid (gb_trans N0.out n1); have hgx : w.heap.size ≤ gx := Nat.le_trans N0.out.size l1) | ((with_reducible refine wpList_build33 (by with_unfolding_all exact rfl) (by with_unfolding_all exact rfl) ?_)) | (go_at_call 39; (with_reducible refine (P3.out _).mono ?_); rintro e' w' ⟨rfl, rfl⟩) | (go_at_call 39; (with_reducible refine (P2.out _).mono ?_); rintro e' w' ⟨rfl, rfl⟩) | (go_at_call 39; (with_reducible refine (P1.out _).mono ?_); rintro e' w' ⟨rfl, rfl⟩) | (go_at_call 39; (with_reducible refine (P0.out _).mono ?_); rintro e' w' ⟨rfl, rfl⟩))
      go_ret
      exact ⟨by rw [HF.out]; rfl, N2.out⟩
    rcases vm with _ | _
    · have HF := Lib.hid (show R = false by rw [HR.out]; simp)
      clear HR
      go_enter Try.func40, Try.ntmps40
      go_wp2_with (first | ((with_reducible refine wpList_eql33 _ _ (by with_unfolding_all exact rfl) (by with_unfolding_all exact rfl) (by with_unfolding_all exact rfl) (by with_unfolding_all exact rfl) hs hz hvs ?_)) | ((with_reducible refine wpList_load_obj 33 _ (by with_unfolding_all exact rfl) (by with_unfolding_all exact rfl) (by with_unfolding_all exact rfl) X2.out _ Try.underlying33 (by with_unfolding_all exact rfl) (i33o _ hz) ?_)) | ((with_reducible refine wpList_load_agg 33 _ (by with_unfolding_all exact rfl) (by with_unfolding_all exact rfl) (by with_unfolding_all exact rfl) (a.s.map bv) (HS2.out _ B2.out) _ Try.underlying33 (by with_unfolding_all exact rfl) (i33' hs) ?_)) | ((with_reducible refine wpList_store_obj 33 _ _ (by with_unfolding_all exact rfl) (by with_unfolding_all exact rfl) (z64.map bv) (by with_unfolding_all exact rfl) (by with_unfolding_all exact rfl) (by with_unfolding_all exact rfl) (i33' hz) (sec_one _) X1.out (by rw [List.size_toArray]) ?_); intro w2 s2 g2; have X2 := Lib.hid s2; have B2 := Lib.hid (B1.out.other g2 (Obj1.ne B1.out X1.out (by decide))); have N2 := Lib.hid (nw_of_gb N1.out g2 (fun q hq => by injection hq with hq; omega)); have hkk := B2.out.k; have hbb := B2.out.b; have hnn := B2.out.n; have htt := B2.out.t; have hmm := B2.out.m) | ((with_reducible refine wpList_alloc33 (by with_unfolding_all exact rfl) (by with_unfolding_all exact rfl) ?_); intro gx w1 x1 n1 l1; have X1 := Lib.hid x1; have B1 := Lib.hid (BX.out.nw n1); have N1 := Lib.hid (gb_trans N0.out n1); have hgx : w.heap.size ≤ gx := Nat.le_trans N0.out.size l1) | ((with_reducible refine wpList_build33 (by with_unfolding_all exact rfl) (by with_unfolding_all exact rfl) ?_)) | (go_at_call 39; (with_reducible refine (P3.out _).mono ?_); rintro e' w' ⟨rfl, rfl⟩) | (go_at_call 39; (with_reducible refine (P2.out _).mono ?_); rintro e' w' ⟨rfl, rfl⟩) | (go_at_call 39; (with_reducible refine (P1.out _).mono ?_); rintro e' w' ⟨rfl, rfl⟩) | (go_at_call 39; (with_reducible refine (P0.out _).mono ?_); rintro e' w' ⟨rfl, rfl⟩))
      go_ret
      exact ⟨by rw [HF.out]; rfl, N2.out⟩
    rcases vs with _ | _
    · have HF := Lib.hid (show R = false by rw [HR.out]; simp)
      clear HR
      go_enter Try.func40, Try.ntmps40
      go_wp2_with (first | ((with_reducible refine wpList_eql33 _ _ (by with_unfolding_all exact rfl) (by with_unfolding_all exact rfl) (by with_unfolding_all exact rfl) (by with_unfolding_all exact rfl) hs hz hvs ?_)) | ((with_reducible refine wpList_load_obj 33 _ (by with_unfolding_all exact rfl) (by with_unfolding_all exact rfl) (by with_unfolding_all exact rfl) X2.out _ Try.underlying33 (by with_unfolding_all exact rfl) (i33o _ hz) ?_)) | ((with_reducible refine wpList_load_agg 33 _ (by with_unfolding_all exact rfl) (by with_unfolding_all exact rfl) (by with_unfolding_all exact rfl) (a.s.map bv) (HS2.out _ B2.out) _ Try.underlying33 (by with_unfolding_all exact rfl) (i33' hs) ?_)) | ((with_reducible refine wpList_store_obj 33 _ _ (by with_unfolding_all exact rfl) (by with_unfolding_all exact rfl) (z64.map bv) (by with_unfolding_all exact rfl) (by with_unfolding_all exact rfl) (by with_unfolding_all exact rfl) (i33' hz) (sec_one _) X1.out (by rw [List.size_toArray]) ?_); intro w2 s2 g2; have X2 := Lib.hid s2; have B2 := Lib.hid (B1.out.other g2 (Obj1.ne B1.out X1.out (by decide))); have N2 := Lib.hid (nw_of_gb N1.out g2 (fun q hq => by injection hq with hq; omega)); have hkk := B2.out.k; have hbb := B2.out.b; have hnn := B2.out.n; have htt := B2.out.t; have hmm := B2.out.m) | ((with_reducible refine wpList_alloc33 (by with_unfolding_all exact rfl) (by with_unfolding_all exact rfl) ?_); intro gx w1 x1 n1 l1; have X1 := Lib.hid x1; have B1 := Lib.hid (BX.out.nw n1); have N1 := Lib.hid (gb_trans N0.out n1); have hgx : w.heap.size ≤ gx := Nat.le_trans N0.out.size l1) | ((with_reducible refine wpList_build33 (by with_unfolding_all exact rfl) (by with_unfolding_all exact rfl) ?_)) | (go_at_call 39; (with_reducible refine (P3.out _).mono ?_); rintro e' w' ⟨rfl, rfl⟩) | (go_at_call 39; (with_reducible refine (P2.out _).mono ?_); rintro e' w' ⟨rfl, rfl⟩) | (go_at_call 39; (with_reducible refine (P1.out _).mono ?_); rintro e' w' ⟨rfl, rfl⟩) | (go_at_call 39; (with_reducible refine (P0.out _).mono ?_); rintro e' w' ⟨rfl, rfl⟩))
      go_ret
      exact ⟨by rw [HF.out]; rfl, N2.out⟩
    have HF := Lib.hid (show R = true by rw [HR.out]; rfl)
    clear HR
    go_enter Try.func40, Try.ntmps40
    go_wp2_with (first | ((with_reducible refine wpList_eql33 _ _ (by with_unfolding_all exact rfl) (by with_unfolding_all exact rfl) (by with_unfolding_all exact rfl) (by with_unfolding_all exact rfl) hs hz hvs ?_)) | ((with_reducible refine wpList_load_obj 33 _ (by with_unfolding_all exact rfl) (by with_unfolding_all exact rfl) (by with_unfolding_all exact rfl) X2.out _ Try.underlying33 (by with_unfolding_all exact rfl) (i33o _ hz) ?_)) | ((with_reducible refine wpList_load_agg 33 _ (by with_unfolding_all exact rfl) (by with_unfolding_all exact rfl) (by with_unfolding_all exact rfl) (a.s.map bv) (HS2.out _ B2.out) _ Try.underlying33 (by with_unfolding_all exact rfl) (i33' hs) ?_)) | ((with_reducible refine wpList_store_obj 33 _ _ (by with_unfolding_all exact rfl) (by with_unfolding_all exact rfl) (z64.map bv) (by with_unfolding_all exact rfl) (by with_unfolding_all exact rfl) (by with_unfolding_all exact rfl) (i33' hz) (sec_one _) X1.out (by rw [List.size_toArray]) ?_); intro w2 s2 g2; have X2 := Lib.hid s2; have B2 := Lib.hid (B1.out.other g2 (Obj1.ne B1.out X1.out (by decide))); have N2 := Lib.hid (nw_of_gb N1.out g2 (fun q hq => by injection hq with hq; omega)); have hkk := B2.out.k; have hbb := B2.out.b; have hnn := B2.out.n; have htt := B2.out.t; have hmm := B2.out.m) | ((with_reducible refine wpList_alloc33 (by with_unfolding_all exact rfl) (by with_unfolding_all exact rfl) ?_); intro gx w1 x1 n1 l1; have X1 := Lib.hid x1; have B1 := Lib.hid (BX.out.nw n1); have N1 := Lib.hid (gb_trans N0.out n1); have hgx : w.heap.size ≤ gx := Nat.le_trans N0.out.size l1) | ((with_reducible refine wpList_build33 (by with_unfolding_all exact rfl) (by with_unfolding_all exact rfl) ?_)) | (go_at_call 39; (with_reducible refine (P3.out _).mono ?_); rintro e' w' ⟨rfl, rfl⟩) | (go_at_call 39; (with_reducible refine (P2.out _).mono ?_); rintro e' w' ⟨rfl, rfl⟩) | (go_at_call 39; (with_reducible refine (P1.out _).mono ?_); rintro e' w' ⟨rfl, rfl⟩) | (go_at_call 39; (with_reducible refine (P0.out _).mono ?_); rintro e' w' ⟨rfl, rfl⟩))
    go_ret
    exact ⟨by rw [HF.out]; rfl, N2.out⟩
end Go.Proofs.Ytmcgfnfhpcddlaa

