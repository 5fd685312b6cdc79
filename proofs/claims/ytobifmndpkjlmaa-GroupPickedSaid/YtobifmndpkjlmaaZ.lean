/- What must be in any case: the statements' shown. -/
import Derived.Test.YtobifmndpkjlmaaY
namespace Go.Proofs.Ytobifmndpkjlmaa
open Go.RowKit Go.BW

theorem rdl (w : World) (zs : List Int) (n : Nat) (h : zs.length = n) : Rd (w.alloc (.cells (zs.map iv).toArray 3)) (w.alloc (.cells (zs.map iv).toArray 3)).heap.size 1 (some ⟨w.heap.size, 0, none⟩) n (zs.map iv) :=
  (rd_lit (zs.map iv) 3 n (by simpa using h)).more (by simp)
def Pick1 (w : World) (e : Ending) (w' : World) : Prop :=
  ∃ b o, e = .returned (.tuple #[.slice (some ⟨b, o, none⟩) 2 2, .bool true]) ∧ w'.cell? ⟨b, o, none⟩ = some (.int .i64 1) ∧ w'.cell? ⟨b, o + 1, none⟩ = some (.int .i64 4) ∧ Nw w w'
theorem pick1 {w : World} {B : Nat} {A A2 : Option Addr} (hr : Rd w B 1 A 5 (([1, 3, 3, 0, 2] : List Int).map iv)) (hb : Rd w B 1 A2 1 (([2] : List Int).map iv)) (hB : B ≤ w.heap.size) : Calls Try.prog 11 #[.slice A 5 5, .int .i64 2, .slice A2 1 1] w (Pick1 w) := by
  refine (pick_any stable_small hr hb hB (by decide) (by decide) (by decide) 2).mono ?_
  rintro e w' ⟨l, hl, hn, h⟩
  have := hl.uniq rank1
  subst this
  rcases h with ⟨h, _⟩ | ⟨k, A', hk, _, _, rfl, hr', _⟩
  · simp at h
  · have : k = 2 := by omega
    subst this
    obtain ⟨b, o, hA, _, hc⟩ := hr'.2 (by decide)
    subst hA
    exact ⟨b, o, rfl, hc 0 _ rfl, hc 1 _ rfl, hn⟩
theorem pick2 {w : World} {B : Nat} {A : Option Addr} (hr : Rd w B 1 A 2 (([1, 0] : List Int).map iv)) (hB : B ≤ w.heap.size) : Calls Try.prog 11 #[.slice A 2 2, .int .i64 2, .slice none 0 0] w (fun e w' => e = .returned (.tuple #[.slice none 0 0, .bool false]) ∧ Nw w w') := by
  refine (pick_any (ban := []) stable_small hr Rd.nil hB (by decide) (by decide) (by decide) 2).mono ?_
  rintro e w' ⟨l, hl, hn, h⟩
  have := hl.uniq rank2
  subst this
  rcases h with ⟨_, rfl⟩ | ⟨k, A', hk, _, h2, _, _⟩
  · exact ⟨rfl, hn⟩
  · simp at h2; omega
theorem on2 (a b : Int) (w : World) : Calls Try.prog 25 #[.slice (some ⟨w.heap.size, 0, none⟩) 2 2] (w.alloc (.cells #[.int .i64 a, .int .i64 b] 3))
    (fun e w' => ∃ A c, e = .returned (.agg #[.int .i64 0, .int .i64 0, .slice A 2 c]) ∧ Own w' w.heap.size 39 2 A 2 c (fl ec (onE [a, b])) ∧ Nw w w') := by
  refine (on_any (rdl w [a, b] 2 rfl) (Nat.le_refl _) (by decide)).mono ?_
  rintro e w' ⟨A, n, c, rfl, ho, rfl, hn⟩
  exact ⟨A, c, rfl, ho.more (by simp), gb_trans (World.grownBy_alloc w _ none) hn⟩
def TwoS (w : World) (b : Nat) (A1 A2 : Option Addr) (c1 c2 : Nat) : Prop := GsR w w.heap.size (some ⟨b, 0, none⟩) 2 (twoG A1 A2 2 c1 2 c2)
theorem two_new {w : World} {B1 B2 : Nat} {A1 A2 : Option Addr} {c1 c2 : Nat} (h1 : Own w B1 39 2 A1 2 c1 (fl ec (onE [0, 1]))) (h2 : Own w B2 39 2 A2 2 c2 (fl ec (onE [0, 2]))) :
    TwoS (w.alloc (.cells #[.int .i64 0, .int .i64 0, .slice A1 2 c1, .int .i64 0, .int .i64 0, .slice A2 2 c2] 37)) w.heap.size A1 A2 c1 c2 := by
  have hn := World.grownBy_alloc w (.cells #[.int .i64 0, .int .i64 0, .slice A1 2 c1, .int .i64 0, .int .i64 0, .slice A2 2 c2] 37) none
  refine ⟨((Obj1.new w 37 #[.int .i64 0, .int .i64 0, .slice A1 2 c1, .int .i64 0, .int .i64 0, .slice A2 2 c2]).ownN (n := 2) (size := 3) (base := 0) rfl (Nat.zero_le _) (by unfold maxLen; decide)).rd, fun g hg => ?_⟩
  simp only [twoG, List.mem_cons, List.not_mem_nil, or_false] at hg
  rcases hg with rfl | rfl
  · exact ⟨(h1.nw hn).rd, h1.cap.1, h1.cap.2, by simp only; decide⟩
  · exact ⟨(h2.nw hn).rd, h2.cap.1, h2.cap.2, by simp only; decide⟩
theorem TwoS.nw {w w' : World} {b : Nat} {A1 A2 : Option Addr} {c1 c2 : Nat} (h : TwoS w b A1 A2 c1 c2) (k : Nw w w') : TwoS w' b A1 A2 c1 c2 := (GsR.nw h k (Nat.le_refl _)).more k.size
section
variable {w : World} {b : Nat} {A1 A2 : Option Addr} {c1 c2 : Nat}
theorem two_mv (h : TwoS w b A1 A2 c1 c2) : Calls Try.prog 16 #[.slice (some ⟨b, 0, none⟩) 2 2, .slice (some ⟨w.heap.size, 0, none⟩) 3 3, .int .i64 0] (w.alloc (.cells #[.int .i64 9, .int .i64 1, .int .i64 1] 3))
    (fun e w' => e = .returned (.tuple #[.int .i64 0, .int .i64 2, .bool true]) ∧ Nw w w') := by
  have hn := World.grownBy_alloc w (.cells #[.int .i64 9, .int .i64 1, .int .i64 1] 3) none
  refine (move_any stable_small (h.nw hn) (by decide) (rdl w [9, 1, 1] 3 rfl) (Nat.le_refl _) (by decide) (by decide) (by decide) (by decide) (by decide) 0).mono ?_
  rintro e w' ⟨r, rfl, hr, hk⟩
  rw [two_move _ _ _ _ _ _ hr]
  exact ⟨rfl, gb_trans hn hk⟩
theorem two_sf (h : TwoS w b A1 A2 c1 c2) : Calls Try.prog 19 #[.slice (some ⟨b, 0, none⟩) 2 2, .slice (some ⟨w.heap.size, 0, none⟩) 3 3, .int .i64 0] (w.alloc (.cells #[.int .i64 9, .int .i64 1, .int .i64 1] 3))
    (fun e w' => e = .returned (.bool true) ∧ Nw w w') := by
  have hn := World.grownBy_alloc w (.cells #[.int .i64 9, .int .i64 1, .int .i64 1] 3) none
  refine (safe_hall (h.nw hn) (rdl w [9, 1, 1] 3 rfl) (Nat.le_refl _) (by decide) (by decide) (by decide) 0).mono ?_
  rintro e w' ⟨rfl, hk⟩
  rw [two_safe]
  exact ⟨rfl, gb_trans hn hk⟩
theorem two_un (h : TwoS w b A1 A2 c1 c2) : Calls Try.prog 19 #[.slice (some ⟨b, 0, none⟩) 2 2, .slice (some ⟨w.heap.size, 0, none⟩) 3 3, .int .i64 0] (w.alloc (.cells #[.int .i64 9, .int .i64 2, .int .i64 0] 3))
    (fun e w' => e = .returned (.bool false) ∧ Nw w w') := by
  have hn := World.grownBy_alloc w (.cells #[.int .i64 9, .int .i64 2, .int .i64 0] 3) none
  refine (safe_hall (h.nw hn) (rdl w [9, 2, 0] 3 rfl) (Nat.le_refl _) (by decide) (by decide) (by decide) 0).mono ?_
  rintro e w' ⟨rfl, hk⟩
  rw [two_unsafe]
  exact ⟨rfl, gb_trans hn hk⟩
theorem two_sp (h : TwoS w b A1 A2 c1 c2) : Calls Try.prog 20 #[.slice (some ⟨b, 0, none⟩) 2 2, .int .i64 3] w (fun e w' => e = .returned (.int .i64 2) ∧ Nw w w') := by
  refine (spare_any h (Nat.le_refl _) (by decide) 3).mono ?_
  rintro e w' ⟨v, rfl, hv, _, hk⟩
  rw [two_spare _ _ _ _ _ _ hv]
  exact ⟨rfl, hk⟩
end
set_option maxHeartbeats 8000000 in
theorem shown_any (w : World) : Calls Try.prog 10 #[] w (Ret (.bool true) w) := by
  have n1 := gb_trans (World.grownBy_alloc w (.cells #[.int .i64 1, .int .i64 3, .int .i64 3, .int .i64 0, .int .i64 2] 3) none) (World.grownBy_alloc (w.alloc (.cells #[.int .i64 1, .int .i64 3, .int .i64 3, .int .i64 0, .int .i64 2] 3)) (.cells #[.int .i64 2] 3) none)
  have P1 := Lib.hid (show Calls Try.prog 11 #[.slice (some ⟨w.heap.size, 0, none⟩) 5 5, .int .i64 2, .slice (some ⟨w.heap.size + 1, 0, none⟩) 1 1] ((w.alloc (.cells #[.int .i64 1, .int .i64 3, .int .i64 3, .int .i64 0, .int .i64 2] 3)).alloc (.cells #[.int .i64 2] 3)) (Pick1 _) from by
    refine pick1 (B := w.heap.size + 2) ((rdl w [1, 3, 3, 0, 2] 5 rfl).nw (World.grownBy_alloc _ (.cells #[.int .i64 2] 3) none) (Nat.le_refl _) |>.more (by simp)) ?_ (by simp)
    have := rdl (w.alloc (.cells #[.int .i64 1, .int .i64 3, .int .i64 3, .int .i64 0, .int .i64 2] 3)) [2] 1 rfl
    have e : (w.alloc (.cells #[.int .i64 1, .int .i64 3, .int .i64 3, .int .i64 0, .int .i64 2] 3)).heap.size = w.heap.size + 1 := by simp
    rw [e] at this
    exact this.more (by simp))
  have P2 := Lib.hid (show ∀ w : World, Calls Try.prog 11 #[.slice (some ⟨w.heap.size, 0, none⟩) 2 2, .int .i64 2, .slice none 0 0] (w.alloc (.cells #[.int .i64 1, .int .i64 0] 3)) (fun e w' => e = .returned (.tuple #[.slice none 0 0, .bool false]) ∧ Nw w w') from fun w =>
    (pick2 (rdl w [1, 0] 2 rfl) (Nat.le_refl _)).mono fun e w' h => ⟨h.1, gb_trans (World.grownBy_alloc w _ none) h.2⟩)
  have P3 := Lib.hid (fun w : World => on2 0 1 w)
  have P4 := Lib.hid (fun w : World => on2 0 2 w)
  have N1 := Lib.hid n1
  unfold Pick1 at P1
  clear n1
  go_enter Try.func10, Try.ntmps10
  go_upto_region 4 with (first
    | ((with_reducible refine (P4.out _).mono ?_); rintro e w5 ⟨A4, c4, rfl, o4, n5⟩)
    | ((with_reducible refine (P3.out _).mono ?_); rintro e w4 ⟨A3, c3, rfl, o3, n4⟩)
    | ((with_reducible refine (P2.out _).mono ?_); rintro e w3 ⟨rfl, n3⟩)
    | ((with_reducible refine P1.out.mono ?_); rintro e w2 ⟨b, o, rfl, k1, k2, n2⟩))
  have hT := two_new (o3.nw n5) o4
  have hn := World.grownBy_alloc w5 (.cells #[.int .i64 0, .int .i64 0, .slice A3 2 c3, .int .i64 0, .int .i64 0, .slice A4 2 c4] 37) none
  have N25 := gb_trans n3 (gb_trans n4 (gb_trans n5 hn))
  have q1 := cell_nw k1 N25
  have q2 := cell_nw k2 N25
  have NW := gb_trans N1.out (gb_trans n2 N25)
  obtain ⟨W, hW⟩ : ∃ W, (w5.alloc (.cells #[.int .i64 0, .int .i64 0, .slice A3 2 c3, .int .i64 0, .int .i64 0, .slice A4 2 c4] 37)) = W := ⟨_, rfl⟩
  obtain ⟨y, hy⟩ : ∃ y, w5.heap.size = y := ⟨_, rfl⟩
  rw [hW] at hT q1 q2 NW ⊢
  rw [hy] at hT ⊢
  have T0 := Lib.hid hT; have NN := Lib.hid NW
  clear hT hn N25 k1 k2 NW hW hy o3 o4 n3 n4 n5 n2 P1 P2 P3 P4
  go_wp2_with (first
    | ((with_reducible refine (two_sp T3.out).mono ?_); rintro e w9 ⟨rfl, n9⟩)
    | ((with_reducible refine (two_un T2.out).mono ?_); rintro e w8 ⟨rfl, n8⟩; have T3 := Lib.hid (T2.out.nw n8))
    | ((with_reducible refine (two_sf T1.out).mono ?_); rintro e w7 ⟨rfl, n7⟩; have T2 := Lib.hid (T1.out.nw n7))
    | ((with_reducible refine (two_mv T0.out).mono ?_); rintro e w6 ⟨rfl, n6⟩; have T1 := Lib.hid (T0.out.nw n6); have q3 := cell_nw q1 n6; have q4 := cell_nw q2 n6))
  go_ret
  exact ⟨rfl, gb_trans NN.out (gb_trans n6 (gb_trans n7 (gb_trans n8 n9)))⟩
end Go.Proofs.Ytobifmndpkjlmaa

