/- What the reference's Same and Sectors, pack.Bytes and the reference's Bytes return, for every slice of at most a million sectors and every string of at most a hundred million bytes. -/
import Derived.Test.YtbgdpcffbihhaaaC
namespace Go.Proofs.Ytbgdpcffbihhaaa
open Go.RowKit Go.BW

theorem chunk_eq (xs ys : List UInt8) (k : Nat) (h : xs.take (k * 64) = ys.take (k * 64)) (he : (xs.drop (k * 64)).take 64 = (ys.drop (k * 64)).take 64) : xs.take ((k + 1) * 64) = ys.take ((k + 1) * 64) := by
  rw [show (k + 1) * 64 = k * 64 + 64 by omega, List.take_add, List.take_add, h, he]
def sameS (xs ys : List UInt8) : Bool := decide (xs = ys)
set_option maxHeartbeats 1000000 in
theorem sames_any (A A' : Option Addr) (n m c c' : Nat) (xs ys : List UInt8) (B : Nat) (w : World) (hm : n ≤ 1000000) (hm' : m ≤ 1000000)
    (hx : Rd w B 64 A n (xs.map bv)) (hy : Rd w B 64 A' m (ys.map bv)) :
    Calls Try.prog 15 #[.slice A n c, .slice A' m c'] w fun e w' => e = .returned (.bool (sameS xs ys)) ∧ ∃ n, w' = w.drewN n := by
  have hlx : xs.length = n * 64 := by have := hx.1; simpa using this
  have hly : ys.length = m * 64 := by have := hy.1; simpa using this
  by_cases hl : n = m
  · subst hl
    have Hlx := Lib.hid hlx; clear hlx
    have Hly := Lib.hid hly; clear hly
    go_enter Try.func15, Try.ntmps15
    go_wp2
    go_loopw [5] (fun i wr => ∃ k : Nat, k ≤ n ∧ i = .int .i64 k ∧ Hid (xs.take (k * 64) = ys.take (k * 64)) ∧ ∃ n, wr = w.drewN n) (fun i _ => n - (intOf i).toNat)
    case atStart => exact ⟨0, Nat.zero_le _, rfl, by rw [Nat.zero_mul]; rfl, 0, rfl⟩
    case round =>
      obtain ⟨k, hk, rfl, ht, nd, rfl⟩ := hrel
      by_cases hlt : k < n
      · obtain ⟨b, off, rfl, _, hl1, hcu⟩ := (hx.drewN nd).atN hlt (by decide)
        obtain ⟨b', off', rfl, _, hl2, hcu'⟩ := (hy.drewN nd).atN hlt (by decide)
        rw [← List.map_drop, ← List.map_take] at hcu hcu' hl1 hl2
        obtain ⟨xk, hxk⟩ : ∃ xk, (xs.drop (k * 64)).take 64 = xk := ⟨_, rfl⟩
        obtain ⟨yk, hyk⟩ : ∃ yk, (ys.drop (k * 64)).take 64 = yk := ⟨_, rfl⟩
        rw [hxk] at hcu hl1
        rw [hyk] at hcu' hl2
        have Hxk := Lib.hid hxk; clear hxk
        have Hyk := Lib.hid hyk; clear hyk
        have hlt' : (k : Int) < (n : Int) := by omega
        have HC := Lib.hid hcu; clear hcu
        have HC' := Lib.hid hcu'; clear hcu'
        have HL1 := Lib.hid hl1; clear hl1
        have HL2 := Lib.hid hl2; clear hl2
        by_cases he : xk = yk
        · have He := Lib.hid he; clear he
          go_wp2
          refine wp_region_quiet_lit (by kernel_rfl) (by kernel_rfl) ?_
          iterate 3 quiet_step (fail)
          refine wpQuiet_load_agg 35 _ rfl rfl rfl _ HC.out _ Try.underlying35 rfl (by rw [HL1.out]; kernel_rfl) ?_
          iterate 3 quiet_step (fail)
          refine wpQuiet_load_agg 35 _ rfl rfl rfl _ HC'.out _ Try.underlying35 rfl (by rw [HL2.out]; kernel_rfl) ?_
          refine wpQuiet_neq_arr 35 35 5 64 _ _ rfl rfl _ _ Try.underlying35 Try.underlying5 (by kernel_rfl) (by kernel_rfl) rfl rfl (by have h := HL1.out; rwa [List.length_map] at h) (by have h := HL2.out; rwa [List.length_map] at h) false (by simpa using He.out) ?_
          refine wpQuiet_nil ?_
          rintro w' ⟨nq, rfl⟩
          go_wp2
          go_roundw
          case rel => exact ⟨k+1, by omega, by go_num, chunk_eq _ _ _ ht.out (by rw [Hxk.out, Hyk.out]; exact He.out), nd + nq, rfl⟩
          case measure => simp [intOf]; omega
        · have hno : sameS xs ys = false := by
            unfold sameS
            rw [decide_eq_false_iff_not]
            intro e
            apply he
            rw [← Hxk.out, ← Hyk.out, e]
          have He := Lib.hid he; clear he
          have Hno := Lib.hid hno; clear hno
          go_wp2
          refine wp_region_quiet_lit (by kernel_rfl) (by kernel_rfl) ?_
          iterate 3 quiet_step (fail)
          refine wpQuiet_load_agg 35 _ rfl rfl rfl _ HC.out _ Try.underlying35 rfl (by rw [HL1.out]; kernel_rfl) ?_
          iterate 3 quiet_step (fail)
          refine wpQuiet_load_agg 35 _ rfl rfl rfl _ HC'.out _ Try.underlying35 rfl (by rw [HL2.out]; kernel_rfl) ?_
          refine wpQuiet_neq_arr 35 35 5 64 _ _ rfl rfl _ _ Try.underlying35 Try.underlying5 (by kernel_rfl) (by kernel_rfl) rfl rfl (by have h := HL1.out; rwa [List.length_map] at h) (by have h := HL2.out; rwa [List.length_map] at h) true (by simpa using He.out) ?_
          refine wpQuiet_nil ?_
          rintro w' ⟨nq, rfl⟩
          go_wp2
          go_ret
          exact ⟨by rw [Hno.out]; rfl, nd + nq, rfl⟩
      · have hyes : sameS xs ys = true := by
          have : k = n := by omega
          unfold sameS
          rw [decide_eq_true_iff]
          have h := ht.out
          rwa [List.take_of_length_le (by rw [Hlx.out]; omega), List.take_of_length_le (by rw [Hly.out]; omega)] at h
        have Hyes := Lib.hid hyes; clear hyes
        go_wp2
        go_ret
        exact ⟨by rw [Hyes.out]; rfl, _, rfl⟩
  · have hno : sameS xs ys = false := by
      unfold sameS
      rw [decide_eq_false_iff_not]
      rintro rfl
      omega
    have hne : ((n : Int) != (m : Int)) = true := by rw [bne_iff_ne]; omega
    have Hno := Lib.hid hno; clear hno
    have Hl := Lib.hid hl; clear hl
    clear hlx hly
    go_enter Try.func15, Try.ntmps15
    go_wp2
    go_ret
    exact ⟨by rw [Hno.out]; rfl, 0, rfl⟩

/-- k bytes in as many sectors as they take -/
def secK (bs : List UInt8) (k : Nat) : List UInt8 := bs.take k ++ List.replicate ((k + 63) / 64 * 64 - k) 0
def SecRel (w : World) (bs : List UInt8) (s i : Value) (wr : World) : Prop :=
  ∃ (k N : Nat) (A' : Option Addr) (c' : Nat), k ≤ bs.length ∧ s = .slice A' N c' ∧ i = .int .i64 k ∧ Nw w wr ∧ Own wr w.heap.size 35 64 A' N c' ((secK bs k).map bv)
theorem secK_len (bs : List UInt8) (k : Nat) (h : k ≤ bs.length) : (secK bs k).length = (k + 63) / 64 * 64 := by
  rw [secK, List.length_append, List.length_take, List.length_replicate]; omega
theorem secK_all (bs : List UInt8) : secK bs bs.length = secL bs := by
  rw [secK, secL, secN, List.take_of_length_le (Nat.le_refl _)]
def secF (bs : List UInt8) (k : Nat) : List UInt8 := bs.take k ++ List.replicate ((k / 64 + 1) * 64 - k) 0
theorem secF_a (bs : List UInt8) (k : Nat) (h : k % 64 = 0) : secK bs k ++ List.replicate 64 0 = secF bs k := by
  unfold secK secF
  rw [show (k + 63) / 64 * 64 - k = 0 by omega, show (k / 64 + 1) * 64 - k = 64 by omega, List.replicate_zero, List.append_nil]
theorem secF_b (bs : List UInt8) (k : Nat) (h : k % 64 ≠ 0) : secK bs k = secF bs k := by
  unfold secK secF
  rw [show (k + 63) / 64 = k / 64 + 1 by omega]
theorem secF_set (bs : List UInt8) (k : Nat) (h : k < bs.length) : ((secF bs k).map bv).set k (.int .u8 (bs[k].toNat : Int)) = (secK bs (k + 1)).map bv := by
  unfold secK secF
  have hl : (bs.take k).length = k := by rw [List.length_take]; omega
  obtain ⟨d, hd⟩ : ∃ d, (k / 64 + 1) * 64 - k = d + 1 := ⟨(k / 64 + 1) * 64 - k - 1, by omega⟩
  rw [hd, show (k + 1 + 63) / 64 * 64 - (k + 1) = d by omega, List.map_append, List.set_append, List.length_map, hl, if_neg (by omega), Nat.sub_self, List.replicate_succ, List.map_cons, List.set_cons_zero, List.take_succ_eq_append_getElem h, List.map_append, List.map_append, List.append_assoc]
  rfl
set_option maxRecDepth 100000 in
set_option maxHeartbeats 1000000 in
theorem rsectors_any (bs : List UInt8) (w : World) (hn : bs.length ≤ 100000000) :
    Calls Try.prog 16 #[.string ⟨bs.toArray⟩] w (OwnSec (secL bs) w) := by
  obtain ⟨i0, hi0, hz0, hs0, _⟩ := T30.info
  go_enter Try.func16, Try.ntmps16
  go_wp2
  go_loopw [3, 4] (fun s i wr => SecRel w bs s i wr) (fun _ i _ => bs.length - (intOf i).toNat)
  case atStart => exact ⟨0, 0, none, 0, by omega, rfl, rfl, Nw.refl _, Own.nil⟩
  case round =>
    obtain ⟨k, N, A', c', hk, rfl, rfl, hnw, hown⟩ := hrel
    have hN := hown.len
    rw [List.length_map, secK_len bs k hk] at hN
    by_cases hlt : k < bs.length
    · by_cases h0 : k % 64 = 0
      · have hN0 : N * 64 = k := by omega
        have e1 : ((k : Int) % 64 == 0) = true := by rw [beq_iff_eq]; omega
        have HN0 := Lib.hid hN0; clear hN0
        have HN := Lib.hid hN; clear hN
        have H0 := Lib.hid h0; clear h0
        have hsm : (N + 1) * 64 ≤ 140737488355328 ∧ N + 1 ≤ maxLen := by have := HN0.out; unfold maxLen; omega
        have ecs : (Array.replicate 64 (Value.int .u8 0)) = ((List.replicate 64 (0 : UInt8)).map bv).toArray := by rw [List.map_replicate, List.toArray_replicate]; rfl
        have hls : ((List.replicate 64 (0 : UInt8)).map bv).length = 64 := by simp
        have h1s := bv_one (List.replicate 64 (0 : UInt8))
        have hz0' : i0.zero = some (.agg ((List.replicate 64 (0 : UInt8)).map bv).toArray) := by rw [hz0, ← ecs]; rfl
        obtain ⟨zc, hzc⟩ : ∃ zc, zc = (List.replicate 64 (0 : UInt8)).map bv := ⟨_, rfl⟩
        rw [← hzc] at hls h1s hz0'
        clear ecs
        have Hzc := Lib.hid hzc; clear hzc
        obtain ⟨r, hr⟩ : ∃ r, k % 64 = r := ⟨_, rfl⟩
        have hr64' : r < 64 := by omega
        have hr0 : r ≤ 0 := by have := H0.out; omega
        have Hr := Lib.hid hr; clear hr
        go_wp2_with (first | (refine wpList_build0 35 rfl rfl i0 zc.toArray hi0 hz0' 64 5 Try.underlying35 (by kernel_rfl) ?_) | (refine wpList_buildSlice1 T30 _ rfl rfl (v := .agg zc.toArray) rfl (by simpa [Value.cells] using hls) (by omega) ?_) | (at_builtin; refine wpList_appN_own T30 _ _ rfl rfl rfl rfl hown hls h1s hsm hnw.size ?_; intro A2 c2 w2 h4 h5 _))
        rw [Hzc.out, ← List.map_append, secF_a bs k H0.out] at h4
        have q2 := nw_of_gb hnw h5 hown.blk
        have hkr : N * 64 + r = k := by have := HN0.out; omega
        obtain ⟨g, rfl, hg⟩ := h4.some_ (by omega)
        obtain ⟨u, hu, hcell, hfz⟩ := h4.cellN (show N * 64 + r < (N + 1) * 64 by omega)
        have er : (k : Int) % 64 = (r : Int) := by omega
        have ert : (k : Int).tmod 64 = (r : Int) := by rw [Int.tmod_eq_emod_of_nonneg (by omega)]; exact er
        have ew : IntKind.i64.wrap (N : Int) = (N : Int) := IntWalk.i64_in _ (by omega)
        have ei : (ByteArray.mk bs.toArray)[k] = bs[k] := rfl
        have hki : (k : Int) < (bs.length : Int) := by omega
        have hr64 : (r : Int) < 64 := by omega
        have hN1 : (N : Int) < (N : Int) + 1 := by omega
        obtain ⟨s1, s2⟩ := h4.set k (.int .u8 (bs[k].toNat : Int))
        rw [secF_set bs k hlt] at s1
        have Hkr := Lib.hid hkr; clear hkr
        go_still_tail 11, (by kernel_rfl)
        change wpList _ _ _ _ _ w2.drew
        clear ew ert
        have HE := Lib.hid ei; clear ei
        go_wp2
        rw [Hkr.out]
        go_roundw
        case rel => exact ⟨k + 1, N + 1, _, c2, by omega, rfl, by go_num, gb_drew (nw_of_gb q2 s2 (by intro g' e; cases e; exact hg)), s1.drew⟩
        case measure => simp [intOf]; omega
      · obtain ⟨M, rfl⟩ : ∃ M, N = M + 1 := ⟨N - 1, by omega⟩
        obtain ⟨N, rfl⟩ : ∃ N, N = M := ⟨_, rfl⟩
        obtain ⟨r, hr⟩ : ∃ r, k % 64 = r := ⟨_, rfl⟩
        have hkr : N * 64 + r = k := by omega
        have e1 : ((k : Int) % 64 == 0) = false := by rw [beq_eq_false_iff_ne]; omega
        rw [secF_b bs k h0] at hown
        have H0 := Lib.hid h0; clear h0
        have HN := Lib.hid hN; clear hN
        have Hr := Lib.hid hr; clear hr
        obtain ⟨w2, rfl⟩ : ∃ w2 : World, w2 = wr := ⟨_, rfl⟩
        obtain ⟨c2, rfl⟩ : ∃ c2, c2 = c' := ⟨_, rfl⟩
        have h4 := hown
        have q2 := hnw
        have hr64' : r < 64 := by have := Hr.out; omega
        go_wp2
        obtain ⟨g, rfl, hg⟩ := h4.some_ (by omega)
        obtain ⟨u, hu, hcell, hfz⟩ := h4.cellN (show N * 64 + r < (N + 1) * 64 by omega)
        have er : (k : Int) % 64 = (r : Int) := by omega
        have ert : (k : Int).tmod 64 = (r : Int) := by rw [Int.tmod_eq_emod_of_nonneg (by omega)]; exact er
        have ew : IntKind.i64.wrap (N : Int) = (N : Int) := IntWalk.i64_in _ (by omega)
        have ei : (ByteArray.mk bs.toArray)[k] = bs[k] := rfl
        have hki : (k : Int) < (bs.length : Int) := by omega
        have hr64 : (r : Int) < 64 := by omega
        have hN1 : (N : Int) < (N : Int) + 1 := by omega
        obtain ⟨s1, s2⟩ := h4.set k (.int .u8 (bs[k].toNat : Int))
        rw [secF_set bs k hlt] at s1
        have Hkr := Lib.hid hkr; clear hkr
        go_still_tail 11, (by kernel_rfl)
        change wpList _ _ _ _ _ w2.drew
        clear ew ert
        have HE := Lib.hid ei; clear ei
        go_wp2
        rw [Hkr.out]
        go_roundw
        case rel => exact ⟨k + 1, N + 1, _, c2, by omega, rfl, by go_num, gb_drew (nw_of_gb q2 s2 (by intro g' e; cases e; exact hg)), s1.drew⟩
        case measure => simp [intOf]; omega
    · have hkn : k = bs.length := by omega
      subst hkn
      rw [secK_all] at hown
      go_wp2
      go_ret
      exact ⟨A', N, c', rfl, hown, hnw⟩

theorem var_rd {w : World} {base g : Nat} {e : TypeId} {L cs : List Value} (s1 : Own w base e 64 (some ⟨g, 0, none⟩) 1 1 (splice L 0 cs)) (hL : cs.length = L.length) : Rd w w.heap.size 1 (some ⟨g, 0, none⟩) 64 cs := by
  rw [splice_all _ _ hL] at s1
  have := s1.rd.flat
  rwa [Nat.one_mul] at this
theorem z64_len : z64.cells.toList.length = 64 := by simp [z64, Value.cells]
def BytesRel (w : World) (bs : List UInt8) (n : Nat) (s i : Value) (wr : World) : Prop :=
  ∃ (k q : Nat) (A' : Option Addr) (c' : Nat), k ≤ n ∧ s = .slice A' q c' ∧ i = .int .i64 k ∧ Nw w wr ∧ Own wr w.heap.size 5 1 A' q c' ((bs.take (k * 64)).map bv)
theorem chunk_snoc (bs : List UInt8) (k : Nat) : bs.take ((k + 1) * 64) = bs.take (k * 64) ++ (bs.drop (k * 64)).take 64 := by
  rw [show (k + 1) * 64 = k * 64 + 64 by omega, List.take_add]
set_option maxRecDepth 100000 in
set_option maxHeartbeats 1000000 in
theorem bytes_any (A : Option Addr) (n c : Nat) (bs : List UInt8) (w : World) (hr : Rd w w.heap.size 64 A n (bs.map bv)) (hn : n ≤ 1000000) :
    Calls Try.prog 17 #[.slice A n c] w (OwnB bs w) := by
  obtain ⟨i0, hi0, hz0, hs0, _⟩ := T30.info
  have hbl : bs.length = n * 64 := by have := hr.1; simpa using this
  have Hbl := Lib.hid hbl; clear hbl
  go_enter Try.func17, Try.ntmps17
  go_wp2
  go_loopw [3, 8] (fun s i wr => BytesRel w bs n s i wr) (fun _ i _ => n - (intOf i).toNat)
  case atStart => exact ⟨0, 0, none, 0, by omega, rfl, rfl, Nw.refl _, by rw [Nat.zero_mul, List.take_zero]; exact Own.nil⟩
  case round =>
    obtain ⟨k, q, A', c', hk, rfl, rfl, hnw, hown⟩ := hrel
    by_cases hlt : k < n
    · obtain ⟨b, off, rfl, hbB, hl1, hcu⟩ := (hr.nw hnw (Nat.le_refl _)).atN hlt (by decide)
      rw [← List.map_drop, ← List.map_take] at hcu hl1
      have hch := chunk_snoc bs k
      obtain ⟨xk, hxk⟩ : ∃ xk, (bs.drop (k * 64)).take 64 = xk := ⟨_, rfl⟩
      rw [hxk] at hcu hl1 hch
      have hq : q ≤ 64000000 := by have := hown.len; rw [List.length_map, List.length_take] at this; omega
      have hsm : (q + 64) * 1 ≤ 140737488355328 ∧ q + 64 ≤ maxLen := by unfold maxLen; omega
      have hlt' : (k : Int) < (n : Int) := by omega
      have h1x := bv_one xk
      have HC := Lib.hid hcu; clear hcu
      have HL := Lib.hid hl1; clear hl1
      have Hch := Lib.hid hch; clear hch
      clear hxk
      go_wp2_with (first | (refine wpList_load_agg 35 _ rfl rfl rfl _ HC.out _ Try.underlying35 rfl (by rw [HL.out]; kernel_rfl) ?_) | (refine wpList_alloc (size := 64) 35 rfl rfl w.heap.size i0 hi0 hz0 (by simp [z64, Value.cells]) hnw.size ?_; intro g w2 a1 a2 a3) | (refine wpList_store_own 35 _ _ rfl rfl rfl rfl rfl (by rw [HL.out]; kernel_rfl) h1x a1 (by rw [HL.out]; omega) ?_; intro w3 s1 s2) | (at_builtin; refine wpList_app_own T24 _ _ rfl rfl rfl rfl ((hown.nw a2).kept s2 (by intro g' e e'; cases e; have := (World.ownsRow.lt hown g e').2; omega)) (var_rd s1 (by rw [HL.out, z64_len])) h1x hsm (Nat.le_trans hnw.size (Nat.le_trans a2.size s2.size)) ?_; intro A4 c4 w4 b1 b2 _))
      go_roundw
      case rel => exact ⟨k + 1, _, A4, c4, by omega, rfl, by go_num, nw_of_gb (nw_of_gb (gb_trans hnw a2) s2 (by intro g' e; cases e; exact Nat.le_trans hnw.size a3)) b2 hown.blk, by rw [Hch.out, List.map_append]; exact b1⟩
      case measure => simp [intOf]; omega
    · have hkn : k = n := by omega
      subst hkn
      rw [List.take_of_length_le (by rw [Hbl.out]; exact Nat.le_refl _)] at hown
      go_wp2
      go_ret
      exact ⟨A', q, c', rfl, hown, hnw⟩

def RBytesRel (w : World) (bs : List UInt8) (n : Nat) (s i : Value) (wr : World) : Prop :=
  ∃ (k : Nat) (q : List UInt8), k ≤ n ∧ s = .string ⟨q.toArray⟩ ∧ i = .int .i64 k ∧ (∃ nd, wr = w.drewN nd) ∧ Hid (q = bs.take (k * 64)) ∧ q.length = k * 64
set_option maxRecDepth 100000 in
set_option maxHeartbeats 1000000 in
theorem rbytes_any (A : Option Addr) (n c : Nat) (bs : List UInt8) (B : Nat) (w : World) (hr : Rd w B 64 A n (bs.map bv)) (hn : n ≤ 1000000) :
    Calls Try.prog 18 #[.slice A n c] w fun e w' => e = .returned (.string ⟨bs.toArray⟩) ∧ ∃ nd, w' = w.drewN nd := by
  have hbl : bs.length = n * 64 := by have := hr.1; simpa using this
  have Hbl := Lib.hid hbl; clear hbl
  go_enter Try.func18, Try.ntmps18
  go_wp2
  go_loopw [3, 4] (fun s i wr => RBytesRel w bs n s i wr) (fun _ i _ => n - (intOf i).toNat)
  case atStart => exact ⟨0, [], by omega, rfl, rfl, ⟨0, rfl⟩, by unfold Hid; simp, by simp⟩
  case round =>
    obtain ⟨k, q, hk, rfl, rfl, ⟨nd, rfl⟩, hq, hql⟩ := hrel
    by_cases hlt : k < n
    · obtain ⟨b, off, rfl, hx⟩ := (hr.drewN nd).elem hlt (by decide)
      rw [← List.map_drop, ← List.map_take] at hx
      have hch := chunk_snoc bs k
      obtain ⟨xk, hxk⟩ : ∃ xk, (bs.drop (k * 64)).take 64 = xk := ⟨_, rfl⟩
      have hxl : xk.length = 64 := by rw [← hxk, List.length_take, List.length_drop]; have := Hbl.out; omega
      rw [hxk] at hx hch
      have hlt' : (k : Int) < (n : Int) := by omega
      have Hch := Lib.hid hch; clear hch
      clear hxk
      have hqb : q.length ≤ 64000000 := by omega
      have hxb : xk.length ≤ 64 := by omega
      have Hql := Lib.hid hql; clear hql
      have Hxl := Lib.hid hxl; clear hxl
      go_wp2_with (first | refine wpList_bytes_str 24 9 5 Try.underlying24 Try.underlying5 Try.underlying9 _ rfl rfl rfl hx ?_)
      go_roundw
      case rel => exact ⟨k + 1, q ++ xk, by omega, by rw [ByteArray.mk_append_mk], by go_num, ⟨nd, rfl⟩, by unfold Hid; rw [hq.out, Hch.out], by rw [List.length_append, Hql.out, Hxl.out]; omega⟩
      case measure => simp [intOf]; omega
    · have hkn : k = n := by omega
      have he : q = bs := by rw [hq.out, hkn]; exact List.take_of_length_le (by rw [Hbl.out]; exact Nat.le_refl _)
      subst he
      have Hql := Lib.hid hql; clear hql
      go_wp2
      go_ret
      exact ⟨rfl, nd, rfl⟩
end Go.Proofs.Ytbgdpcffbihhaaa
