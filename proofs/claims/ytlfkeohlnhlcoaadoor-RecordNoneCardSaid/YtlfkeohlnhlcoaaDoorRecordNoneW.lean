/- The Go function RecordNone returns true for all ints, every slice of bytes and every byte, and only makes new memory; without conditions. -/
import Derived.Test.YtlfkeohlnhlcoaaDoorHW
import Derived.Test.YtlfkeohlnhlcoaaDoorFr
namespace Go.Proofs.YtlfkeohlnhlcoaaDoor
open Go.RowKit Go.BW
def zeros64 : List UInt8 := List.replicate 64 0
theorem tag_zero : tagB zeros64 = false := tagB_no (by unfold okN b8 b9 b10 zeros64; decide)
theorem tag_spoilt {s : List UInt8} {k r : Nat} {c : UInt8} (hl : s.length = 64) (hb : b10 s = k) (hr : k + r < 53) (hc : c ≠ 0) : tagB (s.set (11 + k + r) c) = false := by
  have h10 : b10 (s.set (11 + k + r) c) = k := by
    rw [← hb]; unfold b10
    rw [List.getD_eq_getElem?_getD, List.getD_eq_getElem?_getD, List.getElem?_set_ne (by omega)]
  unfold tagB
  rw [h10]
  have hs : someN ((s.set (11 + k + r) c).drop (11 + k)) = true := by
    unfold someN
    rw [List.any_eq_true]
    refine ⟨c, ?_, by simpa using hc⟩
    rw [List.mem_iff_getElem?]
    refine ⟨r, ?_⟩
    rw [List.getElem?_drop, List.getElem?_set_self (by omega)]
  rw [hs]; simp
theorem parts_one {k : Nat} (h : k ≤ 53) : partsZ k = 1 := by unfold partsZ; rw [if_neg (by omega)]; omega
theorem split_one (g n : Int) (bs : List UInt8) : splitN g n 1 bs 1 = secI g n 1 bs 0 := by unfold splitN splitN; rw [List.nil_append]
theorem sec0_len10 {g n : Int} (g0 : 0 ≤ g) (g1 : g ≤ 4294967295) (n0 : 0 ≤ n) (n1 : n ≤ 4294967295) {bs : List UInt8} (h : bs.length ≤ 53) : b10 (secI g n 1 bs 0) = bs.length := by
  have := ((sec_says g0 g1 n0 n1 (bs := bs) (N := 1) (i := 0) (parts_one h) (by decide)).1).len
  rw [this]; unfold pieceL; rw [List.length_take, List.length_drop]; omega
theorem hoff (y k r : Nat) : Value.pointer (some ⟨y, (11 + (k : Int) + (r : Int)).toNat, none⟩) = Value.pointer (some ⟨y, 11 + k + r, none⟩) := by
  congr 3
theorem splice_one {α : Type} (L : List α) (k : Nat) (x : α) (h : k < L.length) : splice L k [x] = L.set k x := by
  unfold splice
  rw [List.set_eq_take_append_cons_drop, if_pos h]; rfl
set_option maxRecDepth 100000 in
set_option maxHeartbeats 8000000 in
theorem none_walk (g : Int) (_ : -9223372036854775808 ≤ g ∧ g ≤ 9223372036854775807) {w : World} (A : Option Addr) (n c : Nat) (bs : List UInt8) (hin : InB w A n c bs)
    (at_ : Int) (_ : -9223372036854775808 ≤ at_ ∧ at_ ≤ 9223372036854775807) (cz : Int) (hcz : 0 ≤ cz ∧ cz ≤ 255) :
    Calls Tryd.prog 7 #[.int .i64 g, .slice A n c, .int .i64 at_, .int .u8 cz] w (Ret (.bool true) w) := by
  obtain ⟨hr, hc, hcm, hl⟩ := hin
  obtain ⟨k, hk, hkn, hk2⟩ := cut_len n 53
  have HK := Lib.hid (show (if (53 : Int) < (n : Int) then (53 : Int) else (n : Int)) = (k : Int) from hk)
  have hrk := hr.take (size := 1) hkn
  rw [Nat.mul_one, ← List.map_take] at hrk
  have hlk : (bs.take k).length = k := by rw [List.length_take]; omega
  generalize bs.take k = bk at *
  clear hr hl hk
  unfold maxLen at hcm
  have hkc : k ≤ c := by omega
  have HS := Lib.hid (fun w' => shown_any w')
  obtain ⟨g', eg, g0, g1⟩ := and_32 g
  obtain ⟨a, ea, ha⟩ := and_255 at_
  have hN' : partsZ bk.length = ((1 : Nat) : Int) := by rw [hlk]; exact parts_one hk2
  have HL := Lib.hid (split_good g0 g1 (n := 3) (by decide) (by decide) hN' (by decide))
  have HRK := Lib.hid hrk
  unfold Ret at HS
  have hb10 := sec0_len10 g0 g1 (n := 3) (by decide) (by decide) (bs := bk) (by omega)
  have hs64 := secI_len g' 3 1 bk 0
  rw [hlk] at hb10
  have HSP := Lib.hid (fun (w' : World) (h : Nw w w') => show Calls Tryd.prog 11 #[.int .i64 g', .int .i64 3, .slice A k c] w' (RetOwn 35 64 ((secI g' 3 1 bk 0).map bv) w') from by
    have := split_any (g := g') (nn := 3) (d := c) ((HRK.out.nw h (Nat.le_refl _)).more h.size) (by omega) (by unfold maxLen; omega)
    rwa [HL.out, split_one] at this)
  obtain ⟨s, hs⟩ : ∃ s, secI g' 3 1 bk 0 = s := ⟨_, rfl⟩
  rw [hs] at hb10 hs64 HSP
  have hspoil : ∀ {r : Nat} {cc : UInt8}, k + r < 53 → cc ≠ 0 → tagB (s.set (11 + k + r) cc) = false := fun h1 h2 => tag_spoilt hs64 hb10 h1 h2
  have HTZ := Lib.hid (fun w' => tagof_any zeros64 (by unfold zeros64; simp) w')
  rw [tagV_no5 tag_zero] at HTZ
  unfold Ret at HTZ
  obtain ⟨i0, hi0, hz0, hs0, _⟩ := T24.info
  have ecs : (Array.replicate 64 (Value.int .u8 0)) = (zeros64.map bv).toArray := by unfold zeros64; rw [List.map_replicate, List.toArray_replicate]; rfl
  have hz0' : i0.zero = some (.agg (zeros64.map bv).toArray) := by rw [hz0, ← ecs]; rfl
  obtain ⟨Z, hZ⟩ : ∃ Z, (zeros64.map bv).toArray = Z := ⟨_, rfl⟩
  rw [hZ] at hz0' HTZ
  have H0 := Lib.hid hi0; have HZ := Lib.hid hz0'
  have hn1 : ∀ {w' : World} {B m : Nat} {A1 : Option Addr} {c1 : Nat}, Own w' B 35 64 A1 m c1 (s.map bv) → 1 = m := by
    intro w' B m A1 c1 h2; have := h2.len; rw [List.length_map, hs64] at this; omega
  clear hi0 hz0 hs0 hz0' ecs hZ HL hrk hs hN' hlk
  rcases (show k = 53 ∨ (k < 53 ∧ cz = 0) ∨ (k < 53 ∧ cz ≠ 0) by omega) with h1 | ⟨h1, h2⟩ | ⟨h1, h2⟩
  · have b1 : ((53 : Int) - (k : Int) == 0) = true := by simp; omega
    have H1 := Lib.hid h1
    clear h1
    go_enter Tryd.func7, Tryd.ntmps7
    go_wp2_with (first | (refine (HSP.out _ N2.out).mono ?_; rintro e w3 ⟨A3, m3, c3, rfl, o3, n3⟩; have e2 := hn1 o3; subst e2; obtain ⟨y, rfl, hy⟩ := o3.some_ (by decide); have O3 := Lib.hid o3; have N3 := Lib.hid (gb_trans N2.out n3); clear o3 n3) | ((with_reducible refine (HTZ.out _).mono ?_); rintro e w2 ⟨rfl, n2⟩; have N2 := Lib.hid (gb_alloc (gb_trans n1 n2) (.cells #[.int .i64 0, .int .i64 0, .int .i64 0, .int .i64 0, .int .i64 0] 31)); clear n2) | (refine wpList_build0 35 rfl rfl i0 Z H0.out HZ.out 64 5 Tryd.underlying35 (by kernel_rfl) ?_) | (refine wpList_slice_hi 22 5 Tryd.underlying22 (size := 1) (by kernel_rfl) _ _ rfl rfl A n c k rfl rfl hkc ?_) | (refine wpList_min_int _ _ _ rfl rfl (n : Int) 53 rfl rfl HK.out ?_) | ((with_reducible refine (HS.out _).mono ?_); rintro e w1 ⟨rfl, n1⟩))
    go_ret
    exact ⟨rfl, N3.out⟩
  · have b1 : ((53 : Int) - (k : Int) == 0) = false := by simp; omega
    subst h2
    go_enter Tryd.func7, Tryd.ntmps7
    go_wp2_with (first | (refine (HSP.out _ N2.out).mono ?_; rintro e w3 ⟨A3, m3, c3, rfl, o3, n3⟩; have e2 := hn1 o3; subst e2; obtain ⟨y, rfl, hy⟩ := o3.some_ (by decide); have O3 := Lib.hid o3; have N3 := Lib.hid (gb_trans N2.out n3); clear o3 n3) | ((with_reducible refine (HTZ.out _).mono ?_); rintro e w2 ⟨rfl, n2⟩; have N2 := Lib.hid (gb_alloc (gb_trans n1 n2) (.cells #[.int .i64 0, .int .i64 0, .int .i64 0, .int .i64 0, .int .i64 0] 31)); clear n2) | (refine wpList_build0 35 rfl rfl i0 Z H0.out HZ.out 64 5 Tryd.underlying35 (by kernel_rfl) ?_) | (refine wpList_slice_hi 22 5 Tryd.underlying22 (size := 1) (by kernel_rfl) _ _ rfl rfl A n c k rfl rfl hkc ?_) | (refine wpList_min_int _ _ _ rfl rfl (n : Int) 53 rfl rfl HK.out ?_) | ((with_reducible refine (HS.out _).mono ?_); rintro e w1 ⟨rfl, n1⟩))
    go_ret
    exact ⟨rfl, N3.out⟩
  · have b1 : ((53 : Int) - (k : Int) == 0) = false := by simp; omega
    have b2 : (cz == 0) = false := by simpa using h2
    have hr0 : a % (53 - k) < 53 - k := Nat.mod_lt _ (by omega)
    obtain ⟨r, hrr⟩ : ∃ r, a % (53 - k) = r := ⟨_, rfl⟩
    rw [hrr] at hr0
    have hit : ((a : Int)).tmod ((53 : Int) - (k : Int)) = (r : Int) := by rw [← hrr, show (53 : Int) - (k : Int) = ((53 - k : Nat) : Int) by omega]; exact Int.ofNat_tmod _ _
    obtain ⟨cc, hcc⟩ : ∃ cc : UInt8, Value.int .u8 cz = bv cc := ⟨UInt8.ofNat cz.toNat, by unfold bv; congr 1; simp; omega⟩
    have hc0 : cc ≠ 0 := by rintro rfl; unfold bv at hcc; injection hcc with _ h; simp at h; exact h2 h
    have htag := hspoil (r := r) (cc := cc) (by omega) hc0
    have hl2 : (s.set (11 + k + r) cc).length = 64 := by rw [List.length_set]; exact hs64
    have HT2 := Lib.hid (fun w' => tagof_any (s.set (11 + k + r) cc) hl2 w')
    rw [tagV_no5 htag] at HT2
    unfold Ret at HT2
    have HCC := Lib.hid hcc; have HTG := Lib.hid htag; have HS64 := Lib.hid hs64
    have k1 : IntKind.i64.wrap (11 + (k : Int)) = 11 + (k : Int) := IntWalk.i64_in _ (by omega)
    have k2 : IntKind.i64.wrap (11 + (k : Int) + (r : Int)) = 11 + (k : Int) + (r : Int) := IntWalk.i64_in _ (by omega)
    have k3 : 11 + (k : Int) + (r : Int) < 64 := by omega
    have k4 : (0 : Int) ≤ 11 + (k : Int) + (r : Int) := by omega
    have b3 : ¬ ((53 : Int) - (k : Int) = 0) := by omega
    clear hcc htag hspoil hb10 hrr
    go_enter Tryd.func7, Tryd.ntmps7
    go_wp2_with (first | (refine (HSP.out _ N2.out).mono ?_; rintro e w3 ⟨A3, m3, c3, rfl, o3, n3⟩; have e2 := hn1 o3; subst e2; obtain ⟨y, rfl, hy⟩ := o3.some_ (by decide); have O3 := Lib.hid o3; have N3 := Lib.hid (gb_trans N2.out n3); clear o3 n3) | ((with_reducible refine (HTZ.out _).mono ?_); rintro e w2 ⟨rfl, n2⟩; have N2 := Lib.hid (gb_alloc (gb_trans n1 n2) (.cells #[.int .i64 0, .int .i64 0, .int .i64 0, .int .i64 0, .int .i64 0] 31)); clear n2) | (refine wpList_build0 35 rfl rfl i0 Z H0.out HZ.out 64 5 Tryd.underlying35 (by kernel_rfl) ?_) | (refine wpList_slice_hi 22 5 Tryd.underlying22 (size := 1) (by kernel_rfl) _ _ rfl rfl A n c k rfl rfl hkc ?_) | (refine wpList_min_int _ _ _ rfl rfl (n : Int) 53 rfl rfl HK.out ?_) | ((with_reducible refine (HS.out _).mono ?_); rintro e w1 ⟨rfl, n1⟩))
    refine wp_region_held (S := (fun _ => True)) (by kernel_rfl) ?_
    change wpAnyH _ _ _ _ _ _ _ _ (World.drew w3)
    refine held_seg' (l := [0, 1, 2, 3, 4, 5, 6, 7, 8, 9, 10, 11]) (fuel := 1) rfl (by kernel_rfl) (by kernel_rfl) (by simp only [List.filterMap_cons, List.filterMap_nil, List.getElem?_toArray, List.getElem?_cons_succ, List.getElem?_cons_zero]; rfl) (fun _ _ d _ _ h => by cases d <;> exact h) trivial ?_
    iterate 12 (refine wpYield_step rfl (fun K hK => ?_)
                apply Exists.intro
                refine ⟨fun w' hw' => ?_, ?_⟩
                · (go_simp; try with_reducible rfl)
                go_simp
                refine hK _ ?_
                clear hK K)
    refine wpYield_nil ?_
    refine held_eff 12 rfl (by kernel_rfl) rfl (fun K hK => ?_)
    refine wp_store_own (cs := [bv cc]) (off := 11 + k + r) 5 _ _ rfl (hoff y k r) rfl (show (Value.int .u8 cz).cells = _ by rw [HCC.out]; rfl) (by kernel_rfl) (bv_one [cc]) O3.out.drew (by show 11 + k + r + 1 ≤ 1 * 64; omega) ?_
    intro w4 o4 m4
    rw [splice_one _ _ _ (by rw [List.length_map, HS64.out]; omega), ← List.map_set] at o4
    have O4 := Lib.hid o4
    have N4 := Lib.hid (nw_of_gb (gb_drew N3.out) m4 (by intro r hr; injection hr with hr; subst hr; exact Nat.le_trans N2.out.size hy))
    clear o4 m4
    refine hK _ _ ⟨trivial, ?_⟩
    clear hK K
    refine wpAnyH_done (by kernel_rfl) ?_ _
    have HC := Lib.hid (show ∀ j u, ((s.set (11 + k + r) cc).map bv)[j]? = some u → w4.cell? ⟨y, 0 + j, none⟩ = some u from by
      intro j u hu
      obtain ⟨b, off, e, _, hc⟩ := O4.out.rd.flat.2 (by decide)
      injection e with e; injection e with e1 e2; subst e1; subst e2
      exact hc j u hu)
    have hsz : (Tryd.prog.info? 35).map (·.size) = some ((s.set (11 + k + r) cc).map bv).length := by rw [List.length_map, hl2]; kernel_rfl
    obtain ⟨L, hL⟩ : ∃ L, (s.set (11 + k + r) cc).map bv = L := ⟨_, rfl⟩
    rw [hL] at HC hsz HT2
    clear O4 O3 hL
    go_wp2_with (first | ((with_reducible refine (HT2.out _).mono ?_); rintro e w5 ⟨rfl, n5⟩) | (refine wpList_load_agg 35 _ rfl rfl rfl _ HC.out _ Tryd.underlying35 rfl hsz ?_))
    go_ret
    exact ⟨rfl, gb_alloc (gb_trans N4.out n5) _⟩
end Go.Proofs.YtlfkeohlnhlcoaaDoor

