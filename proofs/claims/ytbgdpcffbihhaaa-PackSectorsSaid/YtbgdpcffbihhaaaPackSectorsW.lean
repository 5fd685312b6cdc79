/- The Go function PackSectors returns true for every slice of bytes and every slice of sectors, and only makes new memory; without conditions. -/
import Derived.Test.YtbgdpcffbihhaaaF
import Derived.Test.YtbgdpcffbihhaaaFr
import Derived.Deep.RegionWith
namespace Go.Proofs.Ytbgdpcffbihhaaa
open Go.RowKit Go.BW

def IncRel (w2 : World) (A3 : Option Addr) (N c3 : Nat) (i : Value) (wr : World) : Prop :=
  ∃ (k : Nat) (xs : List UInt8), k ≤ N ∧ i = .int .i64 k ∧ Nw w2 wr ∧ Own wr w2.heap.size 35 64 A3 N c3 (xs.map bv)
theorem set_bv (xs : List UInt8) (k : Nat) (v : Int) (h : 0 ≤ v ∧ v < 256) : (xs.map bv).set k (.int .u8 v) = (xs.set k (UInt8.ofNat v.toNat)).map bv := by
  rw [List.map_set]
  congr 1
  unfold bv
  congr 1
  simp
  omega
set_option maxRecDepth 100000 in
set_option maxHeartbeats 4000000 in
theorem sectors_walk (w : World) (A : Option Addr) (n c : Nat) (bs : List UInt8) (hin : InB w A n c bs) (L : Option Addr) (m d : Nat) (ls : List UInt8) (hin' : InS w L m d ls) :
    Calls Try.prog 5 #[.slice A n c, .slice L m d] w (Ret (.bool true) w) := by
  obtain ⟨hr, hc, hcm, hl⟩ := hin
  obtain ⟨hrl, hd, hdm⟩ := hin'
  obtain ⟨k, hk⟩ : ∃ k : Nat, (¬ (3000 : Int) < n ∧ k = n) ∨ ((3000 : Int) < n ∧ k = 3000) := by
    by_cases h : n ≤ 3000
    · exact ⟨n, .inl ⟨by omega, rfl⟩⟩
    · exact ⟨3000, .inr ⟨by omega, rfl⟩⟩
  obtain ⟨j, hj⟩ : ∃ j : Nat, (¬ (40 : Int) < m ∧ j = m) ∨ ((40 : Int) < m ∧ j = 40) := by
    by_cases h : m ≤ 40
    · exact ⟨m, .inl ⟨by omega, rfl⟩⟩
    · exact ⟨40, .inr ⟨by omega, rfl⟩⟩
  have hkn : k ≤ n := by omega
  have hk2 : k ≤ 3000 := by omega
  have hjm : j ≤ m := by omega
  have hj2 : j ≤ 40 := by omega
  have hrk := hr.take (size := 1) hkn
  rw [Nat.mul_one, ← List.map_take] at hrk
  have hlk : (bs.take k).length = k := by rw [List.length_take]; omega
  have hrj := hrl.take hjm
  rw [← List.map_take] at hrj
  generalize bs.take k = bk at *
  generalize ls.take (j * 64) = lj at *
  clear hr hl hrl
  unfold maxLen at hcm hdm
  have Hlk := Lib.hid hlk; clear hlk
  have hsm : k * 1 ≤ 140737488355328 ∧ k ≤ maxLen := by unfold maxLen; omega
  have Hs := Lib.hid hsm; clear hsm
  rcases hk with ⟨hk, rfl⟩ | ⟨hk, rfl⟩ <;> rcases hj with ⟨hj, rfl⟩ | ⟨hj, rfl⟩
  all_goals
    go_enter Try.func5, Try.ntmps5
    go_wp2_with (first | ((with_reducible refine (shown_any _).mono ?_); rintro e w1 ⟨rfl, hw1⟩) | (at_builtin; refine wpList_app_lit T24 _ _ rfl rfl w.heap.size rfl rfl (hrk.nw hw1 (Nat.le_refl _)) hw1.size (bv_one _) Hs.out hw1.size ?_; intro A2 c2 w2 h2 h3))
    refine (sectors_any _ _ _ _ _ _ h2.rd (Nat.le_refl _) (by omega) h2.cap.1 h2.cap.2).mono ?_
    rintro e w3 ⟨A3, n3, c3, rfl, h4, h5⟩
    have hw3 := gb_trans (gb_trans hw1 h3) h5
    go_wp2_with (first | (refine wpList_bytes_str 24 9 5 Try.underlying24 Try.underlying5 Try.underlying9 _ rfl rfl rfl (hrk.nw hw3 (Nat.le_refl _)) ?_))
    refine (rsectors_any _ _ (by have := Hlk.out; omega)).mono ?_
    rintro e w4 ⟨A4, n4, c4, rfl, h6, h7⟩
    have hw4 := gb_trans hw3 h7
    have hn3 := h4.len
    have hn4 := h6.len
    have hsl : (secL bk).length ≤ 3064 := by unfold secL secN; rw [List.length_append, List.length_replicate, Hlk.out]; omega
    rw [List.length_map] at hn3 hn4
    have hn3b : n3 ≤ 100 := by omega
    have hn4b : n4 ≤ 100 := by omega
    clear hn3 hn4 hsl
    go_wp2_with fail
    refine (sames_any _ _ _ _ _ _ _ _ _ _ (by omega) (by omega) (h4.nw h7).rd h6.rd).mono ?_
    rintro e w5 ⟨rfl, nd, rfl⟩
    have hs : sameS (secL bk) (secL bk) = true := by simp [sameS]
    go_wp2
    go_loopw [9] (fun i wr => IncRel w2 A3 n3 c3 i wr) (fun i _ => n3 - (intOf i).toNat)
    case atStart => exact ⟨0, secL bk, by omega, rfl, gb_drewN (gb_trans h5 h7) nd, (h4.nw h7).drewN nd⟩
    case round =>
      obtain ⟨i, xs, hi, rfl, hnw, hown⟩ := hrel
      by_cases hlt : i < n3
      · obtain ⟨g, rfl, hg⟩ := hown.some_ (by omega)
        obtain ⟨u, hu, hcell, hfz⟩ := hown.cellN (show i * 64 < n3 * 64 by omega)
        rw [List.getElem?_map] at hu
        obtain ⟨v, hv, rfl⟩ := Option.map_eq_some_iff.1 hu
        unfold bv at hcell
        have hvb : v.toNat < 256 := v.toNat_lt
        have hlt' : (i : Int) < (n3 : Int) := by omega
        obtain ⟨y, hy, hy0⟩ : ∃ y, IntKind.u8.wrap ((v.toNat : Int) + 1) = y ∧ (0 ≤ y ∧ y < 256) := ⟨_, rfl, by rw [IntKind.wrap_u8]; omega⟩
        obtain ⟨s1, s2⟩ := hown.set (i * 64) (.int .u8 y)
        rw [set_bv xs (i * 64) y hy0] at s1
        clear hu hv
        go_wp2
        go_still_tail 10, (by kernel_rfl)
        change wpList _ _ _ _ _ wr.drew
        go_wp2
        go_roundw
        case rel => exact ⟨i + 1, _, by omega, by go_num, gb_drew (nw_of_gb hnw s2 (by intro g' e; cases e; exact hg)), s1.drew⟩
        case measure => simp [intOf]; omega
      · have hi' : i = n3 := by omega
        clear hown
        have q0 := gb_trans (gb_trans hw1 h3) hnw
        have own2 := h2.nw hnw
        have HQ := Lib.hid q0; clear q0
        go_wp2
        have B1 := bytes_any L _ d lj wr.drew ((hrj.nw HQ.out (Nat.le_refl _)).drew.more HQ.out.size) (by omega)
        have HB := Lib.hid B1; clear B1
        refine wp_region_held (S := (fun w' => Nw wr w')) (by kernel_rfl) ?_
        change wpAnyH _ _ _ _ _ _ _ _ (World.drew wr)
        refine held_seg' (l := [0, 1, 2, 3, 4, 5, 6, 7, 8, 9, 10, 11, 12, 15]) (fuel := 6) rfl (by kernel_rfl) (by kernel_rfl) (by simp only [List.filterMap_cons, List.filterMap_nil, List.getElem?_toArray, List.getElem?_cons_succ, List.getElem?_cons_zero]; rfl) (fun _ _ d _ _ h => by cases d <;> exact h) (gb_drew (Nw.refl wr)) ?_
        iterate 6 (refine wpYield_step rfl (fun K hK => ?_)
                   apply Exists.intro
                   refine ⟨fun w' hw' => ?_, ?_⟩
                   · (go_simp; try with_reducible rfl)
                   go_simp
                   refine hK _ ?_
                   clear hK K)
        refine wpYield_bytes_str 24 9 5 Try.underlying24 Try.underlying5 Try.underlying9 _ rfl rfl rfl (fun w' hw' => own2.rd.nw hw' (Nat.le_refl _)) ?_
        (refine wpYield_step rfl (fun K hK => ?_)
         apply Exists.intro
         refine ⟨fun w' hw' => ?_, ?_⟩
         · (go_simp; try with_reducible rfl)
         go_simp
         refine hK _ ?_
         clear hK K)
        refine wpYield_bytes_str 24 9 5 Try.underlying24 Try.underlying5 Try.underlying9 _ rfl rfl rfl (fun w' hw' => hrk.nw (gb_trans HQ.out hw') (Nat.le_refl _)) ?_
        iterate 5 (refine wpYield_step rfl (fun K hK => ?_)
                   apply Exists.intro
                   refine ⟨fun w' hw' => ?_, ?_⟩
                   · (go_simp; try with_reducible rfl)
                   go_simp
                   refine hK _ ?_
                   clear hK K)
        refine wpYield_nil ?_
        refine held_eff 13 rfl (by kernel_rfl) rfl (fun K hK => ?_)
        go_simp
        refine HB.out.mono ?_
        rintro e w8 ⟨A8, n8, c8, rfl, o8, e8⟩
        refine hK _ _ ⟨gb_of_drew e8, ?_⟩
        clear hK K
        refine wpAnyH_mono (S' := fun w' => Nw w8 w') (fun w' h => gb_trans (gb_of_drew e8) h) _ _ _ _ ?_
        refine held_seg' (l := [14]) (fuel := 4) rfl (by kernel_rfl) (by kernel_rfl) (by simp only [List.filterMap_cons, List.filterMap_nil, List.getElem?_toArray, List.getElem?_cons_succ, List.getElem?_cons_zero]; rfl) (fun _ _ d _ _ h => by cases d <;> exact h) (Nw.refl w8) ?_
        refine wpYield_bytes_str 24 9 5 Try.underlying24 Try.underlying5 Try.underlying9 _ rfl rfl rfl (fun w' hw' => o8.rd.nw hw' (Nat.le_refl _)) ?_
        refine wpYield_nil ?_
        refine held_eff 16 rfl (by kernel_rfl) rfl (fun K hK => ?_)
        go_simp
        refine (rbytes_any L _ d lj w.heap.size _ (hrj.nw (gb_trans HQ.out (gb_of_drew e8)) (Nat.le_refl _)) (by omega)).mono ?_
        rintro e w9 ⟨rfl, nd', rfl⟩
        refine hK _ _ ⟨gb_drewN (Nw.refl w8) nd', ?_⟩
        clear hK K
        refine held_seg' (l := [17, 18, 19]) (fuel := 0) rfl (by kernel_rfl) (by kernel_rfl) (by simp only [List.filterMap_cons, List.filterMap_nil, List.getElem?_toArray, List.getElem?_cons_succ, List.getElem?_cons_zero]; rfl) (fun _ _ d _ _ h => by cases d <;> exact h) (gb_drewN (Nw.refl w8) nd') ?_
        iterate 3 (refine wpYield_step rfl (fun K hK => ?_)
                   apply Exists.intro
                   refine ⟨fun w' hw' => ?_, ?_⟩
                   · (go_simp; try with_reducible rfl)
                   go_simp
                   refine hK _ ?_
                   clear hK K)
        refine wpYield_nil ?_
        refine wpAnyH_done (by kernel_rfl) ?_ _
        go_wp2
        go_ret
        exact ⟨rfl, gb_drewN (gb_trans HQ.out (gb_of_drew e8)) nd'⟩
theorem sectors_all (A : Option Addr) (n c : Nat) (bs : List UInt8) {w : World} (hin : InB w A n c bs) (L : Option Addr) (m d : Nat) (ls : List UInt8) (hin' : InS w L m d ls) :
    Calls Try.prog 5 #[.slice A n c, .slice L m d] w (Ret (.bool true) w) := sectors_walk w A n c bs hin L m d ls hin'
end Go.Proofs.Ytbgdpcffbihhaaa

