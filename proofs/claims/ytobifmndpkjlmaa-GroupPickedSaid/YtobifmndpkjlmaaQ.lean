/- slices.SortStableFunc by byRoom's comparison, of fewer than twenty disks; group.byRoom. -/
import Derived.Test.YtobifmndpkjlmaaP
namespace Go.Proofs.Ytobifmndpkjlmaa
open Go.RowKit Go.BW

theorem ins_zero (A : Option Addr) (c : Nat) (f : Value) (w : World) : Calls Try.prog 50 #[.slice A 0 c, .int .i64 0, .int .i64 0, f] w (fun e w' => e = .returned (.tuple #[]) ∧ w = w') := by
  go_enter Try.func50, Try.ntmps50
  go_wp2_with fail
  go_loopw [8] (fun v wr => v = .int .i64 1 ∧ w = wr) (fun _ _ => 0)
  case atStart => exact ⟨by go_num, rfl⟩
  case round =>
    obtain ⟨rfl, rfl⟩ := hrel
    go_wp2
    go_end0
    exact ⟨rfl, rfl⟩
theorem stable_zero (A : Option Addr) (c : Nat) (f : Value) (w : World) : Calls Try.prog 47 #[.slice A 0 c, .int .i64 0, f] w (fun e w' => e = .returned (.tuple #[]) ∧ w = w') := by
  have H := Lib.hid (fun w' => ins_zero A c f w')
  go_enter Try.func47, Try.ntmps47
  go_wp2_with fail
  go_loopw [7, 8] (fun a b wr => a = .int .i64 0 ∧ b = .int .i64 20 ∧ w = wr) (fun _ _ _ => 0)
  case atStart => exact ⟨rfl, rfl, rfl⟩
  case round =>
    obtain ⟨rfl, rfl, rfl⟩ := hrel
    go_wp2_with ((with_reducible refine (H.out _).mono ?_); rintro e w' ⟨rfl, rfl⟩)
    go_loopw [6, 7, 8] (fun s a b wr => s = .int .i64 20 ∧ a = .int .i64 0 ∧ b = .int .i64 20 ∧ w = wr) (fun _ _ _ _ => 0)
    case atStart => exact ⟨rfl, rfl, rfl, rfl⟩
    case round =>
      obtain ⟨rfl, rfl, rfl, rfl⟩ := hrel
      go_wp2
      go_end0
      exact ⟨rfl, rfl⟩
theorem sortst_zero (A : Option Addr) (c : Nat) (f : Value) (w : World) : Calls Try.prog 39 #[.slice A 0 c, f] w (fun e w' => e = .returned (.tuple #[]) ∧ w = w') := by
  have H := Lib.hid (fun w' => stable_zero A c f w')
  go_enter Try.func39, Try.ntmps39
  go_wp2_with ((with_reducible refine (H.out _).mono ?_); rintro e w' ⟨rfl, rfl⟩)
  go_end0
  exact ⟨rfl, rfl⟩
def StPost (g base n c : Nat) (rs : List Int) (L : List Nat) (w : World) (e : Ending) (w' : World) : Prop :=
  e = .returned (.tuple #[]) ∧ ∃ M : List Nat, M.Perm L ∧ M.Pairwise (bef rs) ∧ Own w' base 3 1 (some ⟨g, 0, none⟩) n c (M.map nv) ∧ w.grownBy w' (some g)
/-- the stable sort sorts rows of at most K -/
def StableOK (K : Nat) : Prop := ∀ (w : World) (base g y n c N cR : Nat) (AR : Option Addr) (rs : List Int) (L : List Nat), Own w base 3 1 (some ⟨g, 0, none⟩) n c (L.map nv) → Cmp w g y AR N cR rs → 0 < n → n ≤ K →
  (∀ x ∈ L, x < N) → L.Pairwise (· < ·) → Calls Try.prog 47 #[.slice (some ⟨g, 0, none⟩) n c, .int .i64 n, .func (.func 40) #[] #[.pointer (some ⟨y, 0, none⟩)]] w (StPost g base n c rs L w)
set_option maxHeartbeats 1000000 in
theorem stable_small : StableOK 19 := by
  intro w base g y n c N cR AR rs L ho hc h0 hn hL hup
  have hlen : L.length = n := by have := ho.len; simpa using this
  have H := Lib.hid (show Calls Try.prog 50 #[.slice (some ⟨g, 0, none⟩) n c, .int .i64 0, .int .i64 n, .func (.func 40) #[] #[.pointer (some ⟨y, 0, none⟩)]] w (SortPost g base n c rs L 0 n w) from insertion_any (a := 0) (b := n) ho hc (Nat.zero_le _) (Nat.le_refl _) (by omega) hL (by rw [List.drop_zero, List.take_of_length_le (by omega)]; exact hup))
  have HL := Lib.hid (show L.take n = L ∧ L.drop n = [] from ⟨List.take_of_length_le (by omega), List.drop_of_length_le (by omega)⟩)
  clear ho hc hL hup hlen
  unfold SortPost at H
  go_enter Try.func47, Try.ntmps47
  go_wp2_with fail
  go_loopw [7, 8] (fun a b wr => a = .int .i64 0 ∧ b = .int .i64 20 ∧ w = wr) (fun _ _ _ => 0)
  case atStart => exact ⟨rfl, rfl, rfl⟩
  case round =>
    obtain ⟨rfl, rfl, rfl⟩ := hrel
    go_wp2_with ((with_reducible refine H.out.mono ?_); rintro e w1 ⟨rfl, M, hp, hw, ho, hg⟩; have HP := Lib.hid hp; have HW := Lib.hid hw; have HO := Lib.hid ho; have HG := Lib.hid hg; clear hp hw ho hg)
    go_loopw [6, 7, 8] (fun s a b wr => s = .int .i64 20 ∧ a = .int .i64 0 ∧ b = .int .i64 20 ∧ w1 = wr) (fun _ _ _ _ => 0)
    case atStart => exact ⟨rfl, rfl, rfl, rfl⟩
    case round =>
      obtain ⟨rfl, rfl, rfl, rfl⟩ := hrel
      go_wp2
      go_end0
      refine ⟨rfl, M, ?_, HW.out, ?_, HG.out⟩
      · have := HP.out; rwa [List.drop_zero, HL.out.1] at this
      · have := HO.out; rw [HL.out.2] at this; simpa using this
theorem sortst_any {K : Nat} (hK : StableOK K) {w : World} {base g y n c N cR : Nat} {AR : Option Addr} {rs : List Int} {L : List Nat} (ho : Own w base 3 1 (some ⟨g, 0, none⟩) n c (L.map nv)) (hc : Cmp w g y AR N cR rs) (h0 : 0 < n) (hn : n ≤ K)
    (hL : ∀ x ∈ L, x < N) (hup : L.Pairwise (· < ·)) : Calls Try.prog 39 #[.slice (some ⟨g, 0, none⟩) n c, .func (.func 40) #[] #[.pointer (some ⟨y, 0, none⟩)]] w (StPost g base n c rs L w) := by
  have H := Lib.hid (hK w base g y n c N cR AR rs L ho hc h0 hn hL hup)
  clear ho hc hL hup
  unfold StPost at H
  go_enter Try.func39, Try.ntmps39
  go_wp2_with ((with_reducible refine H.out.mono ?_); rintro e w1 ⟨rfl, M, hp, hw, ho, hg⟩; have HP := Lib.hid hp; have HW := Lib.hid hw; have HO := Lib.hid ho; have HG := Lib.hid hg; clear hp hw ho hg)
  go_end0
  exact ⟨rfl, M, HP.out, HW.out, HO.out, HG.out⟩
end Go.Proofs.Ytobifmndpkjlmaa

