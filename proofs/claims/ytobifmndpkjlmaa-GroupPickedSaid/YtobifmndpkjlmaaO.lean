/- cmp.Compare, byRoom's comparison, and the library's insertion sort by it. -/
import Derived.Test.YtobifmndpkjlmaaG
import Derived.Test.YtobifmndpkjlmaaReg
import Derived.Deep.DeepCutAuto
namespace Go.Proofs.Ytobifmndpkjlmaa
open Go.RowKit Go.BW

def cmpf (x y : Int) : Int := if x < y then -1 else if y < x then 1 else 0
theorem isnan_any (x : Int) (w : World) : Calls Try.prog 48 #[.int .i64 x] w (fun e w' => e = .returned (.bool false) ∧ w = w') := by
  have h : (x != x) = false := bne_self_eq_false' x
  go_enter Try.func48, Try.ntmps48
  go_wp2
  go_ret
  first | exact ⟨rfl, rfl⟩ | exact ⟨by simp, rfl⟩
theorem compare_any (x y : Int) (w : World) : Calls Try.prog 41 #[.int .i64 x, .int .i64 y] w (fun e w' => e = .returned (.int .i64 (cmpf x y)) ∧ w = w') := by
  have h1 := Lib.hid (fun w' => isnan_any x w')
  have h2 := Lib.hid (fun w' => isnan_any y w')
  rcases (show x < y ∨ y < x ∨ x = y by omega) with h | h | h
  · have H := Lib.hid (show cmpf x y = -1 by unfold cmpf; rw [if_pos h])
    go_enter Try.func41, Try.ntmps41
    go_wp2_with (first | ((with_reducible refine (h1.out _).mono ?_); rintro e w' ⟨rfl, rfl⟩) | ((with_reducible refine (h2.out _).mono ?_); rintro e w' ⟨rfl, rfl⟩))
    go_ret
    exact ⟨by rw [H.out]; rfl, rfl⟩
  · have H := Lib.hid (show cmpf x y = 1 by unfold cmpf; rw [if_neg (by omega), if_pos h])
    have hn : ¬ x < y := by omega
    go_enter Try.func41, Try.ntmps41
    go_wp2_with (first | ((with_reducible refine (h1.out _).mono ?_); rintro e w' ⟨rfl, rfl⟩) | ((with_reducible refine (h2.out _).mono ?_); rintro e w' ⟨rfl, rfl⟩))
    go_ret
    exact ⟨by rw [H.out]; rfl, rfl⟩
  · have H := Lib.hid (show cmpf x y = 0 by unfold cmpf; rw [if_neg (by omega), if_neg (by omega)])
    have hn : ¬ x < y := by omega
    have hn' : ¬ y < x := by omega
    clear h
    go_enter Try.func41, Try.ntmps41
    go_wp2_with (first | ((with_reducible refine (h1.out _).mono ?_); rintro e w' ⟨rfl, rfl⟩) | ((with_reducible refine (h2.out _).mono ?_); rintro e w' ⟨rfl, rfl⟩))
    go_ret
    exact ⟨by rw [H.out]; rfl, rfl⟩
/-- byRoom's comparison reads the rooms -/
theorem byroom_any {w : World} {B n c y : Nat} {A : Option Addr} {rs : List Int} (hr : Rd w B 1 A n (rs.map iv)) (hs : n ≤ 9223372036854775807) (hc : w.cell? ⟨y, 0, none⟩ = some (.slice A n c)) (a b : Nat) (ha : a < n) (hb : b < n) :
    Calls Try.prog 40 #[.int .i64 a, .int .i64 b, .pointer (some ⟨y, 0, none⟩)] w (fun e w' => e = .returned (.int .i64 (cmpf (rs.getD b 0) (rs.getD a 0))) ∧ ∃ m, w' = w.drewN m) := by
  obtain ⟨bb, off, hA, ca⟩ := atD hr ha
  obtain ⟨bb2, off2, hA2, cb⟩ := atD hr hb
  subst hA
  injection hA2 with hA2; injection hA2 with e1 e2; subst e1; subst e2
  have haz : (a : Int) < (n : Int) := by omega
  have hbz : (b : Int) < (n : Int) := by omega
  obtain ⟨p, hp⟩ : ∃ p, rs.getD b 0 = p := ⟨_, rfl⟩
  obtain ⟨q, hq⟩ : ∃ q, rs.getD a 0 = q := ⟨_, rfl⟩
  rw [hp] at cb ⊢
  rw [hq] at ca ⊢
  have HC := Lib.hid (show ∀ w', Calls Try.prog 41 #[.int .i64 p, .int .i64 q] w' fun e w'' => e = .returned (.int .i64 (cmpf p q)) ∧ w'' = w' from fun w' => (compare_any p q w').mono fun _ _ h => ⟨h.1, h.2.symm⟩)
  obtain ⟨r, hr'⟩ : ∃ r, cmpf p q = r := ⟨_, rfl⟩
  rw [hr'] at HC ⊢
  clear hr hp hq hr'
  go_enter Try.func40, Try.ntmps40
  go_wp2_with fail
  go_quiet (exact Calls.quiet_of_same (HC.out _))
  go_wp2
  go_ret
  exact ⟨rfl, _, by first | rfl | simp⟩
theorem swap_mid (P Q : List Nat) (x y : Nat) : ((P ++ y :: x :: Q).set (P.length + 1) y).set P.length x = P ++ x :: y :: Q := by
  induction P with
  | nil => rfl
  | cons p P ih => simp only [List.cons_append, List.length_cons, List.set_cons_succ, ih]
theorem ins_stop' {rs : List Int} {M1 M2 : List Nat} {x : Nat} (hS : (M1 ++ M2).Pairwise (bef rs)) (hhi : ∀ y ∈ M2, bef rs x y) (hlo : ∀ y ∈ M1 ++ M2, y < x)
    (hst : M1 = [] ∨ ∃ M y, M1 = M ++ [y] ∧ ¬ (rs.getD y 0 < rs.getD x 0)) : (M1 ++ x :: M2).Pairwise (bef rs) := by
  rw [List.pairwise_append] at hS ⊢
  refine ⟨hS.1, List.pairwise_cons.2 ⟨hhi, hS.2.1⟩, fun a ha b hb => ?_⟩
  rcases List.mem_cons.1 hb with rfl | hb
  · rcases hst with h0 | ⟨M, y, rfl, h2⟩
    · subst h0; simp at ha
    · have hlast : bef rs y b := by
        have := hlo y (by simp)
        unfold bef; omega
      rcases List.mem_append.1 ha with ha | ha
      · have h1 := hS.1
        rw [List.pairwise_append] at h1
        exact bef_trans (h1.2.2 a ha y (by simp)) hlast
      · rw [List.mem_singleton] at ha; subst ha; exact hlast
  · exact hS.2.2 a ha b hb
end Go.Proofs.Ytobifmndpkjlmaa

