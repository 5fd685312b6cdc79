/- What must be in any case: the statements' own small case answers true. -/
import Derived.Test.YtlfkeohlnhlcoaaDoorJR
import Derived.Lib.SlBytesConst
namespace Go.Proofs.YtlfkeohlnhlcoaaDoor
open Go.RowKit Go.BW

def ab : List UInt8 := [97, 98]
def sec0 : List UInt8 := [0, 0, 0, 7, 0, 0, 0, 1, 0, 1, 2, 97, 98] ++ List.replicate 51 0
theorem put_7 : putL (putL [] 7 4) 1 4 = [0, 0, 0, 7, 0, 0, 0, 1] := by unfold putL mayB; decide
theorem split_ab : splitL 7 1 ab = sec0 := by
  rw [splitL_yes (N := 1) (by unfold splitB numB partsZ ab; decide) (by unfold partsZ ab; decide)]
  show ([] : List UInt8) ++ padL (putL (putL [] 7 4) 1 4 ++ [0, 1, 2] ++ [97, 98]) = sec0
  rw [put_7]
  decide
theorem fit_ab : fitB 7 1 0 1 sec0 = true := by unfold fitB tagB okN tagE getL getB; decide
theorem join_ab : joinL 7 1 1 sec0 = ab ∧ joinB 7 1 1 sec0 = true := by
  have h : joinAcc 7 1 1 sec0 1 = some ab := by
    rw [joinAcc, joinAcc]
    simp only
    rw [if_pos (by rw [show secAt sec0 0 = sec0 from by decide]; exact fit_ab)]
    decide
  obtain ⟨h1, h2⟩ := join_some h
  exact ⟨h1, by rw [h2]; decide⟩
theorem own1 {w : World} {B : Nat} {A : Option Addr} {n c : Nat} (h : Own w B 35 64 A n c (sec0.map bv)) : n = 1 := by
  have := h.len; rw [List.length_map, show sec0.length = 64 from by decide] at this; omega
theorem sec0_cut {w : World} {B : Nat} {b o : Nat} (h : Rd w B 1 (some ⟨b, o, none⟩) 64 (sec0.map bv)) : Rd w B 1 (some ⟨b, o, none⟩) 14 ([(0 : UInt8), 0, 0, 7, 0, 0, 0, 1, 0, 1, 2, 97, 98, 0].map bv) := by
  have := h.take (k := 14) (by decide)
  exact this
theorem arr_14 (b o : Nat) : ∀ w' : World, (Instr.sliceAt 35 (.pointer (some ⟨b, o, none⟩)) none (some (.int .i64 14)) none).run Tryd.prog w' = .ok (.slice (some ⟨b, o, none⟩) 14 64) w' := by
  intro w'
  have := run_arr_partO 35 5 64 Tryd.underlying35 (by kernel_rfl) b o 0 14 none (some (.int .i64 14)) (by omega) (by omega) (.inr ⟨rfl, rfl⟩) (.inl rfl) w'
  simpa using this
theorem rd_mark (w0 : World) (bs : List UInt8) (e : TypeId) (fz : Nat × Nat) : Rd (w0.alloc (.cells (bs.map bv).toArray e fz)) (w0.heap.size + 1) 1 (some ⟨w0.heap.size, 0, none⟩) bs.length (bs.map bv) := by
  refine ⟨by simp, fun _ => ⟨_, _, rfl, by omega, fun j v hv => ?_⟩⟩
  have hc := cell_of_row (w0.alloc (.cells (bs.map bv).toArray e fz)) w0.heap.size j (bs.map bv).toArray e fz (heap_alloc_new w0 _)
  rw [Nat.zero_add]
  exact hc.trans (by simpa using hv)
theorem join_sec0 {w : World} {B c : Nat} {A : Option Addr} (h : Own w B 35 64 A 1 c (sec0.map bv)) :
    Calls Tryd.prog 18 #[.int .i64 7, .int .i64 1, .slice A 1 c] w fun e w' => ∃ A m c, e = .returned (.tuple #[.slice A m c, .bool true]) ∧ Own w' w.heap.size 5 1 A m c (ab.map bv) ∧ Nw w w' := by
  have hj := join_any (g := 7) (nn := 1) (d := c) h.rd (by decide)
  unfold JoinPost at hj
  rwa [join_ab.1, join_ab.2] at hj
set_option maxHeartbeats 1000000 in
theorem shown_any (w : World) : Calls Tryd.prog 10 #[] w (Ret (.bool true) w) := by
  have HS := Lib.hid (fun (w' : World) => show Calls Tryd.prog 11 #[.int .i64 7, .int .i64 1, .slice (some ⟨w'.heap.size, 0, none⟩) 2 2] (w'.alloc (.cells #[.int .u8 97, .int .u8 98] 5 (2, 3))) (RetOwn 35 64 (sec0.map bv) (w'.alloc (.cells #[.int .u8 97, .int .u8 98] 5 (2, 3)))) from by
    have r1 : Rd (w'.alloc (.cells #[.int .u8 97, .int .u8 98] 5 (2, 3))) (w'.heap.size + 1) 1 (some ⟨w'.heap.size, 0, none⟩) 2 (ab.map bv) := rd_mark w' ab 5 (2, 3)
    have h := split_any (g := 7) (nn := 1) (d := 2) (r1.more (B' := (w'.alloc (.cells #[.int .u8 97, .int .u8 98] 5 (2, 3))).heap.size) (by simp)) (by decide) (by unfold maxLen; decide)
    rw [split_ab] at h
    exact h)
  have kc := fun (w : World) (C : Array Value) (n c : Nat) => Lib.run_convert_bytes_const (P := Tryd.prog) w 22 5 C n c Tryd.underlying22 Tryd.underlying5
  go_enter Tryd.func10, Tryd.ntmps10
  have h14 := fun b => arr_14 b 0
  have HPT := Lib.hid (fun w' => parts_any 54 w')
  rw [show partsZ 54 = 2 from by unfold partsZ; decide] at HPT
  go_wp2_with (first
    | ((with_reducible refine (HPT.out _).mono ?_); rintro e w3 ⟨rfl, rfl⟩)
    | refine wpList_bytes_str 22 9 5 Tryd.underlying22 Tryd.underlying5 Tryd.underlying9 _ rfl rfl rfl (sec0_cut ((o1.nw n2w).rd.flat)) ?_
    | refine wpList_bytes_str 22 9 5 Tryd.underlying22 Tryd.underlying5 Tryd.underlying9 _ rfl rfl rfl o2.rd ?_
    | (refine (join_sec0 o1).mono ?_; rintro e w2 ⟨A2, n2, c2, rfl, o2, n2w⟩)
    | (refine (HS.out _).mono ?_; rintro e w1 ⟨A1, n1, c1, rfl, o1, n1w⟩; obtain rfl := own1 o1; obtain ⟨b, rfl, hb⟩ := o1.some_ (by decide)))
  go_ret
  exact ⟨rfl, gb_trans (gb_trans (World.grownBy_alloc w _ none) n1w) n2w⟩
end Go.Proofs.YtlfkeohlnhlcoaaDoor

