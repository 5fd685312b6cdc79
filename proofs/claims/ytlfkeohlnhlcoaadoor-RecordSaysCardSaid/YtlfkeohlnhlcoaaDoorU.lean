/- What the reference's Put returns. -/
import Derived.Test.YtlfkeohlnhlcoaaDoorT
namespace Go.Proofs.YtlfkeohlnhlcoaaDoor
open Go.RowKit Go.BW

/-- a number's bytes under way: the last d of them stand -/
theorem put_set (v : Int) (wd d : Nat) (hd : d < wd) :
    ((List.replicate (wd - d) (0 : UInt8) ++ be v d).map bv).set (wd - 1 - d) (bv (UInt8.ofNat (v / 2 ^ (8 * d)).toNat)) = (List.replicate (wd - (d + 1)) (0 : UInt8) ++ be v (d + 1)).map bv := by
  obtain ⟨e, he⟩ : ∃ e, wd = e + 1 + d := ⟨wd - d - 1, by omega⟩
  subst he
  rw [show e + 1 + d - d = e + 1 by omega, show e + 1 + d - 1 - d = e by omega, show e + 1 + d - (d + 1) = e by omega, List.replicate_succ', be]
  rw [List.append_assoc, List.map_append, List.map_append, List.set_append, if_neg (by simp)]
  simp
theorem div_step (v : Int) (d : Nat) : v / 2 ^ (8 * d) / 256 = v / 2 ^ (8 * (d + 1)) := by
  rw [Int.ediv_ediv_of_nonneg (Int.le_of_lt (Int.pow_pos (by decide))), show 8 * (d + 1) = 8 * d + 8 by omega, Int.pow_add]
  rfl
set_option maxHeartbeats 1000000 in
theorem rput_any (s : List UInt8) (v width : Int) (w : World) (hs : s.length ≤ 1000000000) (hv : v ≤ 9223372036854775807) :
    Calls Tryd.prog 22 #[.string ⟨s.toArray⟩, .int .i64 v, .int .i64 width] w (Ret (.string ⟨(putL s v width).toArray⟩) w) := by
  by_cases hmay : mayB v width = true
  · have hres : putL s v width = s ++ be v width.toNat := by unfold putL; rw [if_pos hmay]
    rw [hres]
    obtain ⟨m1, m2, m3, m4⟩ := mayB_iff.1 hmay
    have Hm := Lib.hid hmay
    clear hmay hres
    obtain ⟨wd, rfl⟩ := Int.eq_ofNat_of_zero_le (show 0 ≤ width by omega)
    have M4 := Lib.hid m4; clear m4
    go_enter Tryd.func22, Tryd.ntmps22
    go_wp2_with (first | (at_make; refine wpList_make T22 _ _ rfl rfl w.heap.size _ _ _ _ wd rfl rfl rfl rfl (by unfold maxLen; omega) (Nat.le_refl _) ?_; intro g w1 g1 g2 g3) | ((with_reducible refine (rmay_any _ _ _).mono ?_); rw [Hm.out]; rintro e w' ⟨rfl, rfl⟩))
    go_loopw [1, 8] (fun x i wr => ∃ (d : Nat) (q y : Int), d ≤ wd ∧ x = .int .i64 y ∧ i = .int .i64 q ∧ Nw w wr ∧ Hid (q = wd - 1 - d) ∧ Hid (y = v / 2 ^ (8 * d)) ∧ 0 ≤ y ∧ y ≤ 9223372036854775807 ∧
      Own wr w.heap.size 5 1 (some ⟨g, 0, none⟩) wd wd ((List.replicate (wd - d) (0 : UInt8) ++ be v d).map bv)) (fun _ i _ => (intOf i + 1).toNat)
    case atStart =>
      refine ⟨0, _, _, by omega, rfl, rfl, g2, Lib.hid (by omega), Lib.hid (by simp), m3, hv, ?_⟩
      have := g1
      rw [show (Value.int .u8 0).cells = #[Value.int .u8 0] from rfl, toList_madeCells_one, Nat.mul_one] at this
      simpa [be, bv] using this
    case round =>
      obtain ⟨d, q, y, hd, rfl, rfl, hnw, hq, hy, y0, y1, hown⟩ := hrel
      by_cases hq0 : 0 ≤ q
      · have hlt : d < wd := by have := hq.out; omega
        obtain ⟨p, hp⟩ : ∃ p : Nat, q = (p : Int) := ⟨q.toNat, by omega⟩
        subst hp
        have hpw : p < wd := by have := hq.out; omega
        obtain ⟨u, hu, hcell, hfz⟩ := hown.cellAt hpw
        obtain ⟨s1, s2⟩ := hown.set p (bv (UInt8.ofNat (v / 2 ^ (8 * d)).toNat))
        have hz := put_set v wd d hlt
        have ep : wd - 1 - d = p := by have := hq.out; omega
        rw [ep] at hz
        rw [hz] at s1
        have e1 := byte_of v (8 * d) m3
        rw [← hy.out] at e1 s1 s2
        have E1 := Lib.hid e1; clear e1
        go_wp2
        go_roundw
        case rel =>
          rw [E1.out]
          refine ⟨d + 1, _, _, hlt, rfl, rfl, nw_of_gb hnw s2 (by intro g' e; cases e; exact g3), Lib.hid (by have := hq.out; omega), Lib.hid (by rw [hy.out, div_step]), by omega, by omega, ?_⟩
          exact s1
        case measure => simp only [intOf]; omega
      · have hd1 : d = wd := by have := hq.out; omega
        subst hd1
        rw [Nat.sub_self, List.replicate_zero, List.nil_append] at hown
        have hbl : (be v d).length ≤ 6 := by rw [len_be]; omega
        go_wp2_with (first | refine wpList_bytes_str 22 9 5 Tryd.underlying22 Tryd.underlying5 Tryd.underlying9 _ rfl rfl rfl hown.rd ?_)
        go_ret
        exact ⟨by rw [ByteArray.mk_append_mk]; rfl, hnw⟩
  · have hres : putL s v width = s := by unfold putL; rw [if_neg hmay]
    rw [hres]
    have Hm := Lib.hid (show mayB v width = false by simpa using hmay); clear hmay hres
    go_enter Tryd.func22, Tryd.ntmps22
    go_wp2_with (first | ((with_reducible refine (rmay_any _ _ _).mono ?_); rw [Hm.out]; rintro e w' ⟨rfl, rfl⟩))
    go_ret
    exact ⟨rfl, Nw.refl _⟩
end Go.Proofs.YtlfkeohlnhlcoaaDoor

