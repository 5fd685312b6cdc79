/- What the reference's New, Take, Clone and Bytes do. -/
import Derived.Test.YtoinkofoaodkhaaDoorJ
import Derived.Test.YtoinkofoaodkhaaDoorPL2
import Derived.Deep.Cut
import Derived.Deep.CutRange
import Derived.Deep.DeepCutAuto
namespace Go.Proofs.YtoinkofoaodkhaaDoor
open Go.RowKit Go.BW Go.BW.Bit

def RNew (wb : World) (bs : List Bool) (w : World) (e : Ending) (w' : World) : Prop := ∃ g, e = .returned (pv g) ∧ RS wb w' g bs ∧ Nw w w'
theorem rnew_any {wb w : World} (h0 : Nw wb w) (n : Int) : Calls Tryd.prog 22 #[.int .i64 n] w (RNew wb (List.replicate (numN n) false) w) := by
  obtain ⟨N, hN⟩ : ∃ N, numN n = N := ⟨_, rfl⟩
  have hb := numN_b n
  rw [hN] at hb ⊢
  have H0 := Lib.hid h0; clear h0
  rcases (show (n < 0 ∧ (0 : Int) = N) ∨ (65536 < n ∧ ¬ n < 0 ∧ (65536 : Int) = N) ∨ (¬ n < 0 ∧ ¬ 65536 < n ∧ n = N) from by unfold numN at hN; omega) with ⟨h1, e⟩ | ⟨h1, h2, e⟩ | ⟨h1, h2, e⟩
  all_goals
    have EV := Lib.hid e; clear e hN
    go_enter Tryd.func22, Tryd.ntmps22
    go_wp2_with (refine wpList_make T42 _ _ rfl rfl wb.heap.size .i64 .i64 _ _ N rfl rfl EV.out EV.out (by unfold maxLen; omega) H0.out.size ?_; intro l w1 o1 n1 _; have O1 := Lib.hid o1; have N1 := Lib.hid n1; clear o1 n1)
    go_ret
    have o1 := O1.out
    rw [toList_madeB, Nat.mul_one] at o1
    refine ⟨w1.heap.size, rfl, ⟨⟨some ⟨l, 0, none⟩, N, ?_, ?_⟩, Nat.le_trans H0.out.size N1.out.size, gb_alloc (gb_trans H0.out N1.out) _, by rw [List.length_replicate]; exact hb⟩, gb_alloc N1.out _⟩
    · rw [List.length_replicate]; exact Obj1.new w1 _ _
    · rw [List.length_replicate]; exact o1.nw (World.grownBy_alloc w1 _ none)
def RTake (wb : World) (g : Nat) (bs : List Bool) (w : World) (e : Ending) (w' : World) : Prop := e = .returned (nextV bs 0) ∧ RS wb w' g (takeS bs) ∧ (w' = w ∨ RChg w w')
theorem rtake_any {wb w : World} {g : Nat} {bs : List Bool} (h : RS wb w g bs) : Calls Tryd.prog 33 #[pv g] w (RTake wb g bs w) := by
  have hx := rnext_any h 0
  unfold RTake takeS
  unfold nextV at hx ⊢
  rw [show (0 : Int).toNat = 0 from rfl] at hx ⊢
  cases hn : nxt bs 0 with
  | none =>
    rw [hn] at hx
    have HB := Lib.hid h
    clear h hn
    unfold pv at hx ⊢
    have HX := Lib.hid hx; clear hx
    go_enter Tryd.func33, Tryd.ntmps33
    go_wp2_with (refine HX.out.mono ?_; rintro e w2 ⟨rfl, rfl⟩)
    go_ret2
    exact ⟨rfl, HB.out, .inl rfl⟩
  | some i =>
    rw [hn] at hx
    have hs := (nxt_some bs 0 i).1 hn
    obtain ⟨A, c, hc, ho, hob⟩ := h.cell
    have hi := hs.1
    obtain ⟨l, rfl, _⟩ := ho.some_ (by omega)
    have HS := Lib.hid h; have HOB := Lib.hid hob; have HOW := Lib.hid ho
    obtain ⟨hck, hfk⟩ := own_bit ho hi
    have h5 := h.len
    obtain ⟨N, hN⟩ : ∃ N, bs.length = N := ⟨_, rfl⟩
    rw [hN] at hc hi h5
    clear h hn hs ho hob hN
    unfold pv at hx ⊢
    have HX := Lib.hid hx; clear hx
    go_enter Tryd.func33, Tryd.ntmps33
    go_wp2_with (refine HX.out.mono ?_; rintro e w2 ⟨rfl, rfl⟩)
    go_ret2
    obtain ⟨s2, r2⟩ := HS.out.put HOB.out HOW.out (k := i) true
    exact ⟨rfl, s2, .inr r2⟩
theorem rclone_any {wb w : World} {g : Nat} {bs : List Bool} (h : RS wb w g bs) : Calls Tryd.prog 23 #[pv g] w (RNew wb bs w) := by
  obtain ⟨A, c, hc, ho, hob⟩ := h.cell
  have h5 := h.len
  have HS := Lib.hid h
  have hc2 := (hob.nw (World.grownBy_alloc w (.cells #[] 4) none)).cell 0
  have HO := Lib.hid ho.rd
  obtain ⟨N, hN⟩ : ∃ N, bs.length = N := ⟨_, rfl⟩
  have HN := Lib.hid hN
  rw [hN] at hc2 HO h5
  rw [show (#[Value.slice A N c])[0]? = some (.slice A N c) from rfl] at hc2
  clear h hob ho hN hc
  unfold pv
  go_enter Tryd.func23, Tryd.ntmps23
  go_wp2_with (at_builtin; refine wpList_app_lit T42 _ _ rfl rfl wb.heap.size rfl rfl HO.out (Nat.le_refl _) (bo_one _) (by unfold maxLen; omega) HS.out.nw.size ?_; intro A' c1 w2 o2 n2; have O2 := Lib.hid o2; have N2 := Lib.hid n2; clear o2 n2)
  go_ret
  have o2 := O2.out
  have a2 := World.grownBy_alloc w2 (.cells #[.slice A' N c1] 53) none
  rw [← HN.out] at o2 a2 ⊢
  exact ⟨w2.heap.size, rfl, ⟨⟨A', c1, Obj1.new w2 _ _, o2.nw a2⟩, Nat.le_trans HS.out.nw.size N2.out.size, gb_trans (gb_trans HS.out.nw N2.out) a2, HS.out.len⟩, gb_trans N2.out a2⟩
theorem own_lit0 (w : World) : Own (w.alloc (.cells #[] 5)) w.heap.size 5 1 (some ⟨w.heap.size, 0, none⟩) 0 0 [] := World.ownsRow_made w #[] 0 (Nat.le_refl _) (by simp) (by simp)
def OutRel (w : World) (l : List UInt8) (s : Value) (wr : World) : Prop := ∃ A n c, s = .slice A n c ∧ Own wr w.heap.size 5 1 A n c (l.map bv) ∧ Nw w wr
set_option maxRecDepth 100000 in
set_option maxHeartbeats 4000000 in
theorem rbytes_any {wb w : World} {g : Nat} {bs : List Bool} (h : RS wb w g bs) : Calls Tryd.prog 26 #[pv g] w (RetOwn 5 1 ((bytesOf bs).map bv) w) := by
  obtain ⟨A, c, _, ho, hob⟩ := h.cell
  have h5 := h.len
  obtain ⟨N, hN⟩ : ∃ N, bs.length = N := ⟨_, rfl⟩
  have HN := Lib.hid hN
  have HC := Lib.hid (show ∀ w', Nw w w' → w'.cell? ⟨g, 0, none⟩ = some (.slice A N c) from fun w' k => by rw [(hob.nw k).cell 0, hN]; rfl)
  have HO := Lib.hid ho
  rw [hN] at HO h5
  clear h hob ho hN
  unfold pv
  go_enter Tryd.func26, Tryd.ntmps26
  go_wp2_with fail
  go_loopw [3, 4] (fun s i wr => ∃ k : Nat, k ≤ N ∧ i = .int .i64 k ∧ OutRel w (bytesOf (bs.take k)) s wr) (fun _ i _ => N - (intOf i).toNat)
  case atStart => exact ⟨0, Nat.zero_le _, rfl, _, 0, 0, rfl, (by rw [show (bytesOf (bs.take 0)).map bv = [] from by simp [bytesOf]]; exact own_lit0 w), World.grownBy_alloc w _ none⟩
  case round =>
    obtain ⟨k, hk, rfl, A1, n1, c1, rfl, o1, nw1⟩ := hrel
    have O1 := Lib.hid o1; have NW1 := Lib.hid nw1; clear o1 nw1
    have hn1 : (bytesOf (bs.take k)).length = n1 := by have := O1.out.len; simpa using this
    have hn2 : n1 ≤ 8192 := by rw [← hn1, bytesOf_len, List.length_take]; omega
    have HN1 := Lib.hid hn1; clear hn1
    have c0 := HC.out _ NW1.out
    by_cases hlt : k < N
    · obtain ⟨l, rfl, _⟩ := HO.out.some_ (by omega)
      have HKB := Lib.hid (show k < bs.length from by rw [HN.out]; exact hlt)
      obtain ⟨s, hs⟩ : ∃ s, k % 8 = s := ⟨_, rfl⟩
      have hs1 : (k : Int) % 8 = (s : Int) := by omega
      have HG := Lib.hid (show grow bs k = if s = 0 then bytesOf (bs.take k) ++ [0] else bytesOf (bs.take k) from by unfold grow; rw [hs])
      have HGL := Lib.hid (grow_len bs k HKB.out)
      have HS := Lib.hid hs
      have hs8 : s < 8 := by omega
      clear hs
      go_upto_if 17 with fail
      go_cut [3] (fun v wx => OutRel w (grow bs k) v wx)
      case first =>
        rcases (show s = 0 ∨ s ≠ 0 from by omega) with h0 | h0
        · have b0 : ((s : Int) == 0) = true := by rw [h0]; rfl
          have HG0 := Lib.hid (show grow bs k = bytesOf (bs.take k) ++ [0] from by rw [HG.out, if_pos h0])
          clear h0
          go_wp2_with (at_builtin; refine wpList_app1_own T28 _ _ rfl rfl rfl rfl O1.out rfl (by unfold maxLen; omega) NW1.out.size ?_; intro A3 c3 w3 o3 g3 e3; have O3 := Lib.hid o3; have N3 := Lib.hid (nw_of_gb NW1.out g3 O1.out.blk); clear o3 g3 e3)
          go_meet
          exact ⟨A3, n1 + 1, c3, rfl, by rw [HG0.out, List.map_append]; exact O3.out, N3.out⟩
        · have b0 : ((s : Int) == 0) = false := by rw [beq_eq_false_iff_ne]; omega
          have HG0 := Lib.hid (show grow bs k = bytesOf (bs.take k) from by rw [HG.out, if_neg h0])
          clear h0
          go_wp2
          go_meet
          exact ⟨A1, n1, c1, rfl, by rw [HG0.out]; exact O1.out, NW1.out⟩
      case rest =>
        clear O1 NW1 HN1 c0
        obtain ⟨A4, n4, c4, rfl, o4, nw4⟩ := hcut
        have hn4 : n4 = k / 8 + 1 := by have := o4.len; rw [List.length_map, HGL.out] at this; omega
        subst hn4
        obtain ⟨r4, rfl, _⟩ := o4.some_ (by omega)
        have O4 := Lib.hid o4; have NW4 := Lib.hid nw4; clear o4 nw4
        have c0 := HC.out _ NW4.out
        obtain ⟨hq, _⟩ := own_bit (HO.out.nw NW4.out) hlt
        cases hv : bs.getD k false with
        | false =>
          rw [hv] at hq
          have HE := Lib.hid (grow_off bs k HKB.out hv)
          clear hv
          go_wp2
          exact ⟨⟨k + 1, hlt, by go_num, _, _, _, rfl, by rw [HE.out]; exact O4.out, NW4.out⟩, by simp [intOf]; omega⟩
        | true =>
          rw [hv] at hq
          have HE := Lib.hid (grow_on bs k HKB.out hv)
          have hGy := grow_lt bs k HKB.out
          have HGK := Lib.hid (show k / 8 < (grow bs k).length from by rw [HGL.out]; omega)
          obtain ⟨y, hy⟩ : ∃ y, ((grow bs k)[k / 8]'HGK.out).toNat = y := ⟨_, rfl⟩
          rw [hy] at HE hGy
          rw [HS.out] at HE hGy
          obtain ⟨u, hu, hcu, hfu⟩ := O4.out.cellAt (show k / 8 < k / 8 + 1 by omega)
          rw [List.getElem?_map, List.getElem?_eq_getElem HGK.out] at hu
          injection hu with hu
          rw [← hu] at hcu
          unfold bv at hcu
          rw [hy] at hcu
          clear hv hu hy
          have hk8 : (k : Int) / 8 < (k / 8 + 1 : Nat) := by omega
          go_wp2
          have hval : Value.int .u8 (((y : Int) + 2 ^ s) % 256) = bv (UInt8.ofNat (y + 2 ^ s)) := by
            unfold bv
            congr 1
          rw [hval]
          obtain ⟨o5, g5⟩ := O4.out.set (k / 8) (bv (UInt8.ofNat (y + 2 ^ s)))
          rw [← List.map_set, ← HE.out] at o5
          exact ⟨⟨k + 1, hlt, by go_num, _, _, _, rfl, o5, nw_of_gb NW4.out g5 O4.out.blk⟩, by simp [intOf]; omega⟩
    · have hk' : k = N := by omega
      subst hk'
      have HT := Lib.hid (show bs.take k = bs from List.take_of_length_le (by rw [HN.out]; exact Nat.le_refl _))
      go_wp2
      go_ret
      have := O1.out
      rw [HT.out] at this
      exact ⟨_, _, _, rfl, this, NW1.out⟩
end Go.Proofs.YtoinkofoaodkhaaDoor

