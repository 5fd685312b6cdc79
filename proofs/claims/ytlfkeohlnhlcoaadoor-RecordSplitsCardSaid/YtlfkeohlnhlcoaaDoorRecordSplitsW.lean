/- The Go function RecordSplits returns true for all ints and every slice of bytes, and only makes new memory; without conditions. -/
import Derived.Test.YtlfkeohlnhlcoaaDoorS
import Derived.Test.YtlfkeohlnhlcoaaDoorHW
import Derived.Test.YtlfkeohlnhlcoaaDoorFr
namespace Go.Proofs.YtlfkeohlnhlcoaaDoor
open Go.RowKit Go.BW
theorem same_self (xs : List UInt8) : sameS xs xs = true := by simp [sameS]
set_option maxHeartbeats 4000000 in
theorem splits_walk (g : Int) (hg : -9223372036854775808 ≤ g ∧ g ≤ 9223372036854775807) (nn : Int) (hn : -9223372036854775808 ≤ nn ∧ nn ≤ 9223372036854775807) {w : World} (A : Option Addr) (n c : Nat) (bs : List UInt8) (hin : InB w A n c bs) (x : Int) (_hx : -9223372036854775808 ≤ x ∧ x ≤ 9223372036854775807) :
    Calls Tryd.prog 3 #[.int .i64 g, .int .i64 nn, .slice A n c, .int .i64 x] w (Ret (.bool true) w) := by
  obtain ⟨hr, hc, hcm, hl⟩ := hin
  obtain ⟨k, hk, hkn, hk2⟩ := cut_len n 3000
  have HK := Lib.hid (show (if (3000 : Int) < (n : Int) then (3000 : Int) else (n : Int)) = (k : Int) from hk)
  have hrk := hr.take (size := 1) hkn
  rw [Nat.mul_one, ← List.map_take] at hrk
  have hlk : (bs.take k).length = k := by rw [List.length_take]; omega
  generalize bs.take k = bk at *
  clear hr hl hk
  unfold maxLen at hcm
  have HLK := Lib.hid hlk
  have hkc : k ≤ c := by omega
  have HS := Lib.hid (fun w' => shown_any w')
  have HP := Lib.hid (fun w' => parts_any x w')
  have HQ := Lib.hid (fun w' => rparts_any x w')
  obtain ⟨pz, hpz⟩ : ∃ pz, partsZ x = pz := ⟨_, rfl⟩
  rw [hpz] at HP HQ
  have HRS := Lib.hid (fun w' => rsplit_any (bs := bk) (w := w') (g := g) (nn := nn) (by omega) hg.2 hn.2)
  have hsl := splitL_len g nn bk
  obtain ⟨L, hL⟩ : ∃ L, splitL g nn bk = L := ⟨_, rfl⟩
  have HL := Lib.hid hL
  rw [hL] at HRS hsl
  have HRK := Lib.hid hrk
  have hs5 : k * 1 ≤ 140737488355328 ∧ k ≤ maxLen := by unfold maxLen; omega
  clear hlk hpz hL hrk
  unfold Ret at HS
  have HSP := Lib.hid (fun (w' : World) (A2 : Option Addr) (c2 : Nat) (h : Own w' w.heap.size 5 1 A2 k c2 (bk.map bv)) => show Calls Tryd.prog 11 #[.int .i64 g, .int .i64 nn, .slice A2 k c2] w' (RetOwn 35 64 (L.map bv) w') from by
    have := split_any (g := g) (nn := nn) h.rd h.cap.1 h.cap.2
    rwa [HL.out] at this)
  have n64 : ∀ {w' : World} {B : Nat} {A' : Option Addr} {n' c' : Nat}, Own w' B 35 64 A' n' c' (L.map bv) → n' ≤ 1000000 := by
    intro w' B A' n' c' h; have := h.len; rw [List.length_map] at this; omega
  have HSM := Lib.hid (fun (w' : World) (A1 A2 : Option Addr) (n1 n2 c1 c2 B1 B2 : Nat) (h1 : Own w' B1 35 64 A1 n1 c1 (L.map bv)) (h2 : Own w' B2 35 64 A2 n2 c2 (L.map bv)) => sames_any A1 A2 n1 n2 c1 c2 L L w'.heap.size w' (n64 h1) (n64 h2) h1.rd h2.rd)
  rw [same_self] at HSM
  go_enter Tryd.func3, Tryd.ntmps3
  go_wp2_with (first
    | (refine wpList_bytes_str 22 9 5 Tryd.underlying22 Tryd.underlying5 Tryd.underlying9 _ rfl rfl rfl (HRK.out.nw N5.out (Nat.le_refl _)) ?_)
    | (refine wpList_bytes_str 22 9 5 Tryd.underlying22 Tryd.underlying5 Tryd.underlying9 _ rfl rfl rfl (((o2.nw n3).nw n4).drewN nd).rd ?_)
    | ((with_reducible refine (HP.out _).mono ?_); rintro e w6 ⟨rfl, rfl⟩)
    | ((with_reducible refine (HQ.out _).mono ?_); rintro e w6 ⟨rfl, rfl⟩)
    | (refine (HSM.out _ _ _ _ _ _ _ _ _ (o3.nw n4) o4).mono ?_; rintro e w5 ⟨rfl, nd, rfl⟩; have N5 := Lib.hid (gb_drewN (gb_trans (gb_trans (gb_trans n1 n2) n3) n4) nd))
    | (refine (HRS.out _).mono ?_; rintro e w4 ⟨A4, m4, c4, rfl, o4, n4⟩)
    | (refine wpList_bytes_str 22 9 5 Tryd.underlying22 Tryd.underlying5 Tryd.underlying9 _ rfl rfl rfl (HRK.out.nw (gb_trans (gb_trans n1 n2) n3) (Nat.le_refl _)) ?_)
    | (refine (HSP.out _ _ _ o2).mono ?_; rintro e w3 ⟨A3, m3, c3, rfl, o3, n3⟩)
    | (at_builtin; refine wpList_app_lit T22 _ _ rfl rfl w.heap.size rfl rfl (HRK.out.nw n1 (Nat.le_refl _)) n1.size (bv_one _) hs5 n1.size ?_; intro A2 c2 w2 o2 n2)
    | (refine wpList_slice_hi 22 5 Tryd.underlying22 (size := 1) (by kernel_rfl) _ _ rfl rfl A n c k rfl rfl hkc ?_)
    | (refine wpList_min_int _ _ _ rfl rfl (n : Int) 3000 rfl rfl HK.out ?_)
    | ((with_reducible refine (HS.out _).mono ?_); rintro e w1 ⟨rfl, n1⟩))
  go_ret
  exact ⟨rfl, N5.out⟩
end Go.Proofs.YtlfkeohlnhlcoaaDoor

