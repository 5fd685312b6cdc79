/- The Go function ModelFresh returns true for every int, slice of bools and int; without conditions. -/
import Derived.Test.YtblkdmnfmnbbeaaK2
import Derived.Test.YtblkdmnfmnbbeaaOpen
namespace Go.Proofs.Ytblkdmnfmnbbeaa
open Go.RowKit Go.BW

def FreshRel (w : World) (g N : Nat) (wr : World) : Prop := ∃ o F, St w wr g (List.replicate N (z64b, o)) F 1 []
theorem map_rep {f : List UInt8 × Bool → List UInt8 × Bool} {N : Nat} {a b : List UInt8 × Bool} (h : f a = b) : (List.replicate N a).map f = List.replicate N b := by rw [List.map_replicate, h]
theorem may_bad2 {w : World} {g N : Nat} {F : List Nat} {o : Bool} (h : Rep w g (List.replicate N (z64b, o)) F 1) (block : Int) (hb : block < 0 ∨ (N : Int) ≤ block) (s : List UInt8) (hs : s.length = 64) :
    Calls Try.prog 14 #[pv g, .int .i64 block, sv s] w (Ret (.bool false) w) := may_bad h block (by unfold Bad; rw [List.length_replicate]; exact hb) s hs
theorem may_z {w : World} {g N : Nat} {F : List Nat} {o : Bool} (h : Rep w g (List.replicate N (z64b, o)) F 1) (i : Nat) (hi : i < N) :
    Calls Try.prog 14 #[pv g, .int .i64 i, sv z64b] w (Ret (.bool true) w) := by
  have := may_in h (by omega) i (z64b, o) (by rw [List.getElem?_replicate, if_pos hi]) z64b rfl
  rwa [show (if (z64b, o).2 = true then hasB (z64b, o).1 z64b else decide (lastB (z64b, o).1 = z64b)) = true from by cases o <;> kernel_rfl] at this
theorem may_1 {w : World} {g N : Nat} {F : List Nat} {o : Bool} (h : Rep w g (List.replicate N (z64b, o)) F 1) (i : Nat) (hi : i < N) :
    Calls Try.prog 14 #[pv g, .int .i64 i, sv (b1 1)] w (Ret (.bool false) w) := by
  have := may_in h (by omega) i (z64b, o) (by rw [List.getElem?_replicate, if_pos hi]) (b1 1) rfl
  rwa [show (if (z64b, o).2 = true then hasB (z64b, o).1 (b1 1) else decide (lastB (z64b, o).1 = b1 1)) = false from by cases o <;> kernel_rfl] at this
set_option maxRecDepth 100000 in
set_option maxHeartbeats 4000000 in
theorem fresh_walk (n : Int) (hn1 : -9223372036854775808 ≤ n ∧ n ≤ 9223372036854775807) {w : World} (A : Option Addr) (len cap : Nat) (bs : List Bool) (hin : InL w (fun b : Bool => [Value.bool b]) 1 (fun _ => True) A len cap bs) (block : Int) (hb1 : -9223372036854775808 ≤ block ∧ block ≤ 9223372036854775807) :
    Calls Try.prog 4 #[.int .i64 n, .slice A len cap, .int .i64 block] w (Ret (.bool true) w) := by
  obtain ⟨hr, hc, hcm, hbl, _⟩ := hin
  rw [flat1] at hr
  have HR := Lib.hid hr; clear hr
  obtain ⟨i0, hi0, hz0, _⟩ := T22.info
  rw [z64_cells] at hz0
  have HZ := Lib.hid hz0; clear hz0
  have HI := Lib.hid hi0; clear hi0
  obtain ⟨N, hN⟩ : ∃ N, numN n = N := ⟨_, rfl⟩
  have hNb := numN_b n
  have hnew := fun w => new_any n w
  rw [hN] at hNb hnew
  have HNEW := Lib.hid hnew; clear hnew
  obtain ⟨o, ho⟩ : ∃ o : Nat, (¬ 0 ≤ block ∧ block < 0 ∧ o = 0) ∨ (0 ≤ block ∧ ¬ block < N ∧ o = 0) ∨ (o < N ∧ block = o) := by
    by_cases h1 : block < 0
    · exact ⟨0, .inl ⟨by omega, h1, rfl⟩⟩
    · by_cases h2 : block < N
      · exact ⟨block.toNat, .inr (.inr ⟨by omega, by omega⟩)⟩
      · exact ⟨0, .inr (.inl ⟨by omega, h2, rfl⟩)⟩
  have hN3 : (N = 1 ∧ ¬ 1 < n ∧ ¬ 96 < n) ∨ (N = 96 ∧ 96 < n) ∨ (n = (N : Int) ∧ 1 < N ∧ N ≤ 96) := by unfold numN at hN; omega
  clear hN hNb
  rcases hN3 with ⟨rfl, h1, h2⟩ | ⟨rfl, h1⟩ | ⟨rfl, h1, h2⟩
  all_goals
    rcases ho with ⟨g1, g2, rfl⟩ | ⟨g1, g2, rfl⟩ | ⟨g1, rfl⟩
  all_goals
    try push_cast at g1
    try push_cast at g2
    go_enter Try.func4, Try.ntmps4
    go_wp2_with (first | ((with_reducible refine (shown_any _).mono ?_); rintro e w1 ⟨rfl, n1⟩; have N1 := Lib.hid n1; clear n1) | (refine (HNEW.out _).mono ?_; rintro e w2 h1; obtain ⟨g, F, rfl, s1⟩ := St.of_new N1.out h1; have S1 := Lib.hid s1; clear s1 h1; unfold pv))
    go_loopw [9] (fun i wr => ∃ i' : Nat, i = .int .i64 i' ∧ i' ≤ 40 ∧ i' ≤ len ∧ FreshRel w g _ wr) (fun i _ => 40 - (intOf i).toNat)
    case atStart => exact ⟨0, rfl, by omega, by omega, false, F, S1.out⟩
    case round =>
      obtain ⟨i, rfl, hi1, hi2, op, F5, s5⟩ := hrel
      have S5 := Lib.hid s5; clear s5
      by_cases hlt : i < len ∧ i < 40
      · obtain ⟨hlt1, hlt2⟩ := hlt
        obtain ⟨b, off, rfl, hz, hcell⟩ := (HR.out.nw S5.out.nw (Nat.le_refl _)).atF hlt1
        obtain ⟨x, hx⟩ : ∃ x, bs[i] = x := ⟨_, rfl⟩
        rw [hx] at hcell
        clear hx
        rcases x with _ | _
        · go_wp2_with (refine (fall_any S5.out.rep (by simp <;> omega)).mono ?_; rintro e w6 h6; obtain ⟨rfl, F6, s6, k6⟩ := S5.out.step h6; rw [map_rep (b := (z64b, true)) rfl] at s6; have S6 := Lib.hid s6; clear s6 k6 h6)
          exact ⟨⟨i + 1, rfl, by omega, hlt1, true, F6, S6.out⟩, by simp [intOf]; omega⟩
        · go_wp2_with (refine (flush_any S5.out.rep (by simp <;> omega) (by omega)).mono ?_; rintro e w6 h6; obtain ⟨rfl, F6, s6, k6⟩ := S5.out.step h6; rw [map_rep (b := (z64b, op)) (by cases op <;> kernel_rfl)] at s6; have S6 := Lib.hid s6; clear s6 k6 h6)
          exact ⟨⟨i + 1, rfl, by omega, hlt1, op, F6, S6.out⟩, by simp [intOf]; omega⟩
      · have hcases : (¬ i < len) ∨ (i < len ∧ i = 40) := by omega
        clear hlt
        rcases hcases with hlt1 | ⟨hlt1, rfl⟩
        all_goals
          go_wp2_with (first | (refine (S5.out.rep.len).mono ?_; rintro e w6 ⟨rfl, rfl⟩; simp only [List.length_replicate]) |
            (refine wpList_build0 27 rfl rfl i0 (z64b.map bv).toArray HI.out HZ.out 64 5 Try.underlying27 (by kernel_rfl) ?_) | (refine wpList_build1 rfl 1 _ rfl rfl rfl ?_) |
            (refine (may_bad2 S6.out.rep _ (by omega) (b1 1) rfl).mono ?_; rintro e w7 ⟨rfl, n7⟩; have S7 := Lib.hid (S6.out.more n7).1; clear n7) |
            (refine (may_1 S6.out.rep _ (by omega)).mono ?_; rintro e w7 ⟨rfl, n7⟩; have S7 := Lib.hid (S6.out.more n7).1; clear n7) |
            (refine (may_bad2 S5.out.rep _ (by omega) z64b rfl).mono ?_; rintro e w6 ⟨rfl, n6⟩; have S6 := Lib.hid (S5.out.more n6).1; clear n6) |
            (refine (may_z S5.out.rep _ (by omega)).mono ?_; rintro e w6 ⟨rfl, n6⟩; have S6 := Lib.hid (S5.out.more n6).1; clear n6))
          go_ret
          exact ⟨by first | rfl | (simp; omega), S7.out.nw⟩
end Go.Proofs.Ytblkdmnfmnbbeaa

