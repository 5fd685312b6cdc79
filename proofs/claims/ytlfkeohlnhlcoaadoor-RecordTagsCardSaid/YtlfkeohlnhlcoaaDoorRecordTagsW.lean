/- The Go function RecordTags returns true for all ints and every slice of sectors, and only makes new memory; without conditions. -/
import Derived.Test.YtlfkeohlnhlcoaaDoorHW
import Derived.Test.YtlfkeohlnhlcoaaDoorFr
namespace Go.Proofs.YtlfkeohlnhlcoaaDoor
open Go.RowKit Go.BW
set_option maxRecDepth 100000 in
set_option maxHeartbeats 8000000 in
theorem tags_walk (g : Int) (_ : -9223372036854775808 ≤ g ∧ g ≤ 9223372036854775807) (nn : Int) (_ : -9223372036854775808 ≤ nn ∧ nn ≤ 9223372036854775807) {w : World} (A : Option Addr) (n c : Nat) (ls : List UInt8) (hin : InS w A n c ls) :
    Calls Tryd.prog 4 #[.int .i64 g, .int .i64 nn, .slice A n c] w (Ret (.bool true) w) := by
  obtain ⟨hr, hc, hcm⟩ := hin
  obtain ⟨N, hk, hkn, hk2⟩ := cut_len n 50
  have HK := Lib.hid (show (if (50 : Int) < (n : Int) then (50 : Int) else (n : Int)) = (N : Int) from hk)
  have hrk := hr.take hkn
  rw [← List.map_take] at hrk
  generalize ls.take (N * 64) = bs at *
  clear hr hk
  unfold maxLen at hcm
  have hkc : N ≤ c := by omega
  have HS := Lib.hid (fun w' => shown_any w')
  unfold Ret at HS
  have HR := Lib.hid hrk
  have HJ := Lib.hid (fun (w' : World) (h : Nw w w') => join_any (g := g) (nn := nn) (d := c) ((HR.out.nw h (Nat.le_refl _)).more h.size) (by omega))
  have HQ := Lib.hid (fun (w' : World) (h : Nw w w') => rjoin_any (g := g) (nn := nn) (d := c) ((HR.out.nw h (Nat.le_refl _)).more h.size) (by omega))
  obtain ⟨J, hJ⟩ : ∃ J, joinL g nn N bs = J := ⟨_, rfl⟩
  obtain ⟨jb, hjb⟩ : ∃ jb, joinB g nn N bs = jb := ⟨_, rfl⟩
  unfold JoinPost at HJ
  unfold RJoinPost at HQ
  rw [hJ, hjb] at HJ HQ
  clear hrk hJ hjb
  go_enter Tryd.func4, Tryd.ntmps4
  go_wp2_with (first
    | (refine wpList_slice_hi 24 35 Tryd.underlying24 (size := 64) (by kernel_rfl) _ _ rfl rfl A n c N rfl rfl hkc ?_)
    | (refine wpList_min_int _ _ _ rfl rfl (n : Int) 50 rfl rfl HK.out ?_) | ((with_reducible refine (HS.out _).mono ?_); rintro e w1 ⟨rfl, n1⟩))
  go_loopw [8] (fun i wr => ∃ q : Nat, q ≤ N ∧ i = .int .i64 q ∧ Nw w wr) (fun i _ => N - (intOf i).toNat)
  case atStart => exact ⟨0, Nat.zero_le _, rfl, n1⟩
  case round =>
    obtain ⟨q, hq, rfl, hnw⟩ := hrel
    by_cases hlt : q < N
    · obtain ⟨b, off, rfl, hx⟩ := (HR.out.nw hnw (Nat.le_refl _)).elem hlt (by decide)
      rw [← List.map_drop, ← List.map_take] at hx
      change Rd wr w.heap.size 1 (some ⟨b, off + q * 64, none⟩) 64 ((secAt bs q).map bv) at hx
      have hs64 : (secAt bs q).length = 64 := by have := hx.1; simpa using this
      have HT := Lib.hid (fun w' => tagof_any (secAt bs q) hs64 w')
      have HU := Lib.hid (fun w' => rtagof_any (secAt bs q) hs64 w')
      obtain ⟨x1, x2, x3, x4, x5, t, hv⟩ : ∃ (x1 x2 x3 x4 x5 : Int) (t : Bool), tagV (secAt bs q) = .tuple #[.agg #[.int .i64 x1, .int .i64 x2, .int .i64 x3, .int .i64 x4, .int .i64 x5], .bool t] := by
        unfold tagV; split
        · exact ⟨_, _, _, _, _, _, rfl⟩
        · exact ⟨_, _, _, _, _, _, rfl⟩
      rw [hv] at HT HU
      obtain ⟨L, hL⟩ : ∃ L, (secAt bs q).map bv = L := ⟨_, rfl⟩
      rw [hL] at hx HT HU
      have hcl : ∀ w', Nw wr w' → ∀ j u, L[j]? = some u → w'.cell? ⟨b, off + q * 64 + j, none⟩ = some u := by
        intro w' h j u hu
        obtain ⟨b', o', e, _, hc⟩ := (hx.nw h hnw.size).2 (by decide)
        injection e with e; injection e with e1 e2; subst e1; subst e2
        exact hc j u hu
      have HCL := Lib.hid hcl
      have HLL := Lib.hid (show L.length = 64 by have := hx.1; omega)
      have hlt' : (q : Int) < (N : Int) := by omega
      clear hcl hx hL hs64 hv HJ HQ HS
      unfold Ret at HT HU
      go_upto_region 7 with (first | ((with_reducible refine (HT.out _).mono ?_); rintro e w2 ⟨rfl, n2⟩) | (refine wpList_load_agg 35 _ rfl rfl rfl L (HCL.out _ (Nw.refl wr)) _ Tryd.underlying35 rfl (by rw [HLL.out]; kernel_rfl) ?_))
      have ho := Obj1.new w2 31 #[.int .i64 x1, .int .i64 x2, .int .i64 x3, .int .i64 x4, .int .i64 x5]
      have hn3 := gb_trans n2 (World.grownBy_alloc w2 (.cells #[.int .i64 x1, .int .i64 x2, .int .i64 x3, .int .i64 x4, .int .i64 x5] 31) none)
      obtain ⟨W, hW⟩ : ∃ W, w2.alloc (.cells #[.int .i64 x1, .int .i64 x2, .int .i64 x3, .int .i64 x4, .int .i64 x5] 31) = W := ⟨_, rfl⟩
      obtain ⟨y, hy⟩ : ∃ y, w2.heap.size = y := ⟨_, rfl⟩
      rw [hW] at ho hn3 ⊢
      rw [hy] at ho ⊢
      have N3 := Lib.hid hn3; have HO := Lib.hid ho
      clear hW hy ho hn3 n2
      go_upto_region 8 with (first | ((with_reducible refine (HU.out _).mono ?_); rintro e w4 ⟨rfl, n4⟩) | (refine wpList_load_agg 35 _ rfl rfl rfl L (HCL.out _ N3.out) _ Tryd.underlying35 rfl (by rw [HLL.out]; kernel_rfl) ?_))
      have hn5 := gb_trans n4 (World.grownBy_alloc w4 (.cells #[.int .i64 x1, .int .i64 x2, .int .i64 x3, .int .i64 x4, .int .i64 x5] 36) none)
      have ho := Obj1.new w4 36 #[.int .i64 x1, .int .i64 x2, .int .i64 x3, .int .i64 x4, .int .i64 x5]
      obtain ⟨V, hV⟩ : ∃ V, w4.alloc (.cells #[.int .i64 x1, .int .i64 x2, .int .i64 x3, .int .i64 x4, .int .i64 x5] 36) = V := ⟨_, rfl⟩
      obtain ⟨z, hz⟩ : ∃ z, w4.heap.size = z := ⟨_, rfl⟩
      rw [hV] at ho hn5 ⊢
      rw [hz] at ho ⊢
      have ho2 := HO.out.nw hn5
      have N5 := Lib.hid (gb_trans hnw (gb_trans N3.out hn5))
      have k0 : V.cell? ⟨y, 0, none⟩ = some (.int .i64 x1) := ho2.cell 0
      have k1 : V.cell? ⟨y, 1, none⟩ = some (.int .i64 x2) := ho2.cell 1
      have k2 : V.cell? ⟨y, 2, none⟩ = some (.int .i64 x3) := ho2.cell 2
      have k3 : V.cell? ⟨y, 3, none⟩ = some (.int .i64 x4) := ho2.cell 3
      have k4 : V.cell? ⟨y, 4, none⟩ = some (.int .i64 x5) := ho2.cell 4
      have j0 : V.cell? ⟨z, 0, none⟩ = some (.int .i64 x1) := ho.cell 0
      have j1 : V.cell? ⟨z, 1, none⟩ = some (.int .i64 x2) := ho.cell 1
      have j2 : V.cell? ⟨z, 2, none⟩ = some (.int .i64 x3) := ho.cell 2
      have j3 : V.cell? ⟨z, 3, none⟩ = some (.int .i64 x4) := ho.cell 3
      have j4 : V.cell? ⟨z, 4, none⟩ = some (.int .i64 x5) := ho.cell 4
      clear hV hz ho ho2 hn5 n4 N3 HO HT HU HCL HLL
      go_wp2
      go_roundw
      case rel => exact ⟨q + 1, by omega, by go_num, N5.out⟩
      case measure => simp only [intOf]; omega
    · have hqN : q = N := by omega
      subst hqN
      go_wp2_with (first
        | (refine wpList_bytes_str 22 9 5 Tryd.underlying22 Tryd.underlying5 Tryd.underlying9 _ rfl rfl rfl (o2.nw n3).rd ?_)
        | (refine (HQ.out _ (gb_trans hnw n2)).mono ?_; rintro e w3 ⟨rfl, n3⟩)
        | (refine (HJ.out _ hnw).mono ?_; rintro e w2 ⟨A2, m2, c2, rfl, o2, n2⟩))
      go_ret
      exact ⟨rfl, gb_trans (gb_trans hnw n2) n3⟩
end Go.Proofs.YtlfkeohlnhlcoaaDoor

