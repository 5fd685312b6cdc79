/- What pack.Sectors returns, for every slice of at most a hundred million bytes; and that the law's own first look is true, without conditions. -/
import Derived.Test.YtbgdpcffbihhaaaB
namespace Go.Proofs.Ytbgdpcffbihhaaa
open Go.RowKit Go.BW

def z64 : Value := .agg (Array.replicate 64 (.int .u8 0))
theorem T30 : El Try.prog 30 35 z64 64 64 := El.mk' Try.underlying30 (by kernel_rfl) (by simp [z64, Value.cells]) (by decide)
theorem made64 (n : Nat) : (madeCells z64.cells n).toList = (List.replicate n (0 : UInt8)).map bv := by
  apply List.ext_getElem?
  intro j
  by_cases hj : j < n
  · have h2 : j % 64 < 64 := Nat.mod_lt _ (by decide)
    simp [madeCells, z64, Value.cells, hj, h2, bv]
  · simp [madeCells, hj]

/-- the bytes in N sectors, the first k of which are filled -/
def sec (bs : List UInt8) (N k : Nat) : List UInt8 := bs.take (k * 64) ++ List.replicate (N * 64 - (bs.take (k * 64)).length) 0
def secN (bs : List UInt8) : Nat := (bs.length + 63) / 64
/-- the bytes, and noughts behind -/
def secL (bs : List UInt8) : List UInt8 := bs ++ List.replicate (secN bs * 64 - bs.length) 0
theorem sec_zero (bs : List UInt8) (N : Nat) : sec bs N 0 = List.replicate (N * 64) 0 := by simp [sec]
theorem sec_all (bs : List UInt8) : sec bs (secN bs) (secN bs) = secL bs := by
  unfold sec secL
  rw [List.take_of_length_le (by unfold secN; omega)]
theorem sec_step (bs : List UInt8) (N k : Nat) (hk : k < N) (hN : N = secN bs) :
    splice ((sec bs N k).map bv) (k * 64) (((bs.drop (k * 64)).map bv).take 64) = (sec bs N (k + 1)).map bv := by
  have h1 : k * 64 < bs.length := by unfold secN at hN; omega
  have hl : (bs.take (k * 64)).length = k * 64 := by rw [List.length_take]; omega
  have hcs : ((bs.drop (k * 64)).take 64).length = min 64 (bs.length - k * 64) := by rw [List.length_take, List.length_drop]
  have ht : bs.take ((k + 1) * 64) = bs.take (k * 64) ++ (bs.drop (k * 64)).take 64 := by
    rw [show (k + 1) * 64 = k * 64 + 64 by omega, List.take_add]
  rw [← List.map_take]
  unfold splice sec
  rw [ht]
  generalize (bs.drop (k * 64)).take 64 = cs at *
  generalize bs.take (k * 64) = ps at *
  rw [List.length_map, List.map_append, List.map_append, List.map_append, List.append_assoc]
  rw [List.take_append_of_le_length (by rw [List.length_map]; omega), List.take_of_length_le (by rw [List.length_map]; omega)]
  rw [List.drop_append, List.drop_eq_nil_of_le (by rw [List.length_map]; omega), List.nil_append, List.length_map, hl, List.length_append, hl]
  simp only [List.map_replicate, List.drop_replicate]
  rw [show N * 64 - k * 64 - (k * 64 + cs.length - k * 64) = N * 64 - (k * 64 + cs.length) from by omega]

def OwnSec (cells : List UInt8) (w : World) (e : Ending) (w' : World) : Prop := RetOwn 35 64 (cells.map bv) w e w'
set_option maxHeartbeats 1000000 in
theorem sectors_any (A : Option Addr) (n c : Nat) (bs : List UInt8) (B : Nat) (w : World) (hr : Rd w B 1 A n (bs.map bv)) (hB : B ≤ w.heap.size) (hn : n ≤ 100000000) (hc : n ≤ c) (hcm : c ≤ maxLen) :
    Calls Try.prog 14 #[.slice A n c] w (OwnSec (secL bs) w) := by
  have hbl : bs.length = n := by have := hr.1; simpa using this
  have Hbl := Lib.hid hbl; clear hbl
  obtain ⟨N, hN⟩ : ∃ N, N = (n + 63) / 64 := ⟨_, rfl⟩
  have hNi : ((n : Int) + 64 - 1) / 64 = (N : Int) := by omega
  have hNb : N * 64 < n + 64 := by omega
  have HN := Lib.hid hN; clear hN
  have HNi := Lib.hid hNi; clear hNi
  unfold maxLen at hcm
  go_enter Try.func14, Try.ntmps14
  go_wp2_with (first | (at_make; refine wpList_make T30 _ _ rfl rfl w.heap.size _ _ _ _ N rfl rfl HNi.out HNi.out (by unfold maxLen; omega) (Nat.le_refl _) ?_; intro g w1 h1 h2 h3))
  go_loopw [13] (fun i wr => ∃ (k : Nat), k ≤ N ∧ i = .int .i64 k ∧ Nw w wr ∧ Own wr w.heap.size 35 64 (some ⟨g, 0, none⟩) N N ((sec bs N k).map bv)) (fun i _ => N - (intOf i).toNat)
  case atStart => exact ⟨0, by omega, rfl, h2, by rw [sec_zero, ← made64]; exact h1⟩
  case round =>
    obtain ⟨k, hk, rfl, hnw, hown⟩ := hrel
    by_cases hlt : k < N
    · go_wp2
      have hkN : (k : Int) < (N : Int) := by omega
      have hk64 : (k : Int) * 64 ≤ (n : Int) := by have := HN.out; omega
      have hk64' : k * 64 ≤ n := by omega
      have hdr := (hr.nw hnw hB).drop (size := 1) hk64' hc
      rw [Nat.mul_one] at hdr
      have hfit : k * 64 + Nat.min (n - k * 64) 64 ≤ N * 64 := by have : Nat.min (n - k * 64) 64 ≤ 64 := Nat.min_le_right _ _; omega
      have ew : IntKind.i64.wrap ((k : Int) * 64) = (k : Int) * 64 := IntWalk.i64_in _ (by omega)
      have ew0 : 0 ≤ (k : Int) * 64 := by omega
      have ewt : ((k : Int) * 64).toNat = k * 64 := by omega
      go_still_tail 8, (by kernel_rfl)
      change wpList _ _ _ _ _ wr.drew
      clear ew ew0 ewt
      refine wpList_copy (size := 64) 24 24 5 Try.underlying24 (by kernel_rfl) _ _ rfl rfl rfl rfl hown.drew hdr.drew ?_ hfit ?_
      · rw [← List.map_drop]; exact bv_one _
      · intro w2 h4 h5
        go_wp2
        go_roundw
        case rel => exact ⟨k + 1, by omega, by go_num, nw_of_gb (row := some g) hnw (gb_of_drew h5) (by intro g' e; cases e; exact h3), by rw [← sec_step bs N k hlt (by unfold secN; rw [Hbl.out]; exact HN.out), List.map_drop]; exact h4⟩
        case measure => simp [intOf]; omega
    · have hkN : k = N := by omega
      subst hkN
      have hs : sec bs k k = secL bs := by rw [← sec_all]; congr 1 <;> (unfold secN; rw [Hbl.out]; exact HN.out)
      rw [hs] at hown
      go_wp2
      go_ret
      exact ⟨_, _, _, rfl, hown, hnw⟩

theorem toList_made1 (n : Nat) : (madeCells (Value.int .u8 0).cells n).toList = (List.replicate n (0 : UInt8)).map bv := by
  rw [show (Value.int .u8 0).cells = #[Value.int .u8 0] from rfl, toList_madeCells_one, List.map_replicate]; rfl
/-! what must be in any case -/
theorem put_258 : putL [5] 258 3 = [5, 0, 1, 2] := by unfold putL mayB; decide
theorem row_12 : putRowL [] [1, 2] 1 = [0, 2, 1, 2] := by unfold putRowL putRowB rowAcc putL mayB; decide
theorem sec_65 : (secL (List.replicate 65 0)).length = 128 := by simp [secL, secN]
set_option maxHeartbeats 1000000 in
theorem shown_any (w : World) : Calls Try.prog 11 #[] w (Ret (.bool true) w) := by
  go_enter Try.func11, Try.ntmps11
  go_wp2_with fail
  have r1 : Rd (w.alloc (.cells #[.int .u8 5] 5)) (w.heap.size + 1) 1 (some ⟨w.heap.size, 0, none⟩) 1 ([(5 : UInt8)].map bv) := rd_lit [.int .u8 5] 5 1 rfl
  refine (put_any _ _ _ _ _ _ _ _ r1 (by simp) (by omega) (by omega) (by omega)).mono ?_
  rw [put_258]
  rintro e w1 ⟨A1, n1, c1, rfl, h1, h2⟩
  have n1w : Nw w w1 := gb_trans (World.grownBy_alloc w _ _) h2
  go_wp2_with (first | refine wpList_bytes_str 24 9 5 Try.underlying24 Try.underlying5 Try.underlying9 _ rfl rfl rfl h1.rd ?_)
  have r2 : Rd (w1.alloc (.cells #[.int .i64 1, .int .i64 2] 3)) (w1.heap.size + 1) 1 (some ⟨w1.heap.size, 0, none⟩) 2 ([(1 : Int), 2].map iv) := rd_lit [.int .i64 1, .int .i64 2] 3 2 rfl
  refine (putRow_any _ _ _ _ _ _ [] _ _ (w1.heap.size + 1) _ Rd.nil r2 (by simp) (by omega) (by omega) (by omega) (by simp)).mono ?_
  rw [row_12]
  rintro e w2 ⟨A2, n2, c2, rfl, h3, h4⟩
  have n2w : Nw w w2 := gb_trans (gb_trans n1w (World.grownBy_alloc w1 _ _)) h4
  go_wp2_with (first | refine wpList_bytes_str 24 9 5 Try.underlying24 Try.underlying5 Try.underlying9 _ rfl rfl rfl h3.rd ?_ | (at_make; refine wpList_make T24 _ _ rfl rfl w2.heap.size _ _ _ _ 65 rfl rfl rfl rfl (by unfold maxLen; omega) (Nat.le_refl _) ?_; intro g w3 h5 h6 _))
  have r3 : Rd w3 w3.heap.size 1 (some ⟨g, 0, none⟩) 65 ((List.replicate 65 (0 : UInt8)).map bv) := by
    have := h5.rd
    rwa [toList_made1] at this
  refine (sectors_any _ _ _ _ _ _ r3 (Nat.le_refl _) (by omega) (by omega) (by unfold maxLen; omega)).mono ?_
  rintro e w4 ⟨A4, n4, c4, rfl, h7, h8⟩
  have hn : n4 = 2 := by
    have := h7.len
    rw [List.length_map, sec_65] at this
    omega
  subst hn
  go_wp2
  go_ret
  exact ⟨rfl, gb_trans (gb_trans n2w h6) h8⟩
end Go.Proofs.Ytbgdpcffbihhaaa
