/- What the reference's Of returns. -/
import Derived.Test.YtoinkofoaodkhaaDoorK
namespace Go.Proofs.YtoinkofoaodkhaaDoor
open Go.RowKit Go.BW Go.BW.Bit

theorem rof_arg {w : World} (n : Int) (hn : n < 0 ∨ 65536 < n) (A : Option Addr) (m c : Nat) : Calls Tryd.prog 18 #[.int .i64 n, .slice A m c] w (Ret (.tuple #[.pointer none, .int .i64 1]) w) := by
  rcases (show n < 0 ∨ (¬ n < 0 ∧ 65536 < n) from by omega) with h0 | ⟨h0, h1⟩
  all_goals
    go_enter Tryd.func18, Tryd.ntmps18
    go_wp2
    go_ret2
    exact ⟨rfl, Nw.refl w⟩
theorem upTo_end {N m k : Nat} {l : List UInt8} (hl : l.length = m) (hk : k ≤ N) (h : k = N ∨ m ≤ k / 8) : upTo false (bitsOf N l) k = bitsOf N l := by
  have hbl := bitsOf_len N l
  rcases h with rfl | h
  · have := upTo_all false (bitsOf k l)
    rwa [hbl] at this
  · apply bits_ext (upTo_len _ _ _ (by omega))
    intro j hj
    rw [upTo_len _ _ _ (by omega)] at hj
    by_cases hjk : j < k
    · unfold upTo
      rw [List.getD_eq_getElem?_getD, List.getElem?_append_left (by simp; omega), List.getElem?_take, if_pos hjk, List.getD_eq_getElem?_getD]
    · have e1 : (upTo false (bitsOf N l) k).getD j false = false := by
        unfold upTo
        rw [List.getD_eq_getElem?_getD, List.getElem?_append_right (by simp; omega), List.getElem?_replicate]
        split <;> rfl
      have e2 : bitAt l j = false := by
        unfold bitAt
        rw [List.getD_eq_getElem?_getD, List.getElem?_eq_none (by omega)]
        simp
      rw [e1, bitsOf_at, e2]; simp
def ROf (wb : World) (N : Nat) (l : List UInt8) (w : World) (e : Ending) (w' : World) : Prop :=
  if okB N l then ∃ g, e = .returned (.tuple #[pv g, .int .i64 0]) ∧ RS wb w' g (bitsOf N l) ∧ Nw w w' else e = .returned (.tuple #[.pointer none, .int .i64 2]) ∧ Nw w w'
def ROfRel (wb w : World) (g N : Nat) (l : List UInt8) (k : Nat) (wr : World) : Prop := RS wb wr g (upTo false (bitsOf N l) k) ∧ Nw w wr
set_option maxRecDepth 100000 in
set_option maxHeartbeats 8000000 in
theorem rof_any {wb w : World} (h0 : Nw wb w) (N : Nat) (hN : N ≤ 65536) {B : Nat} {A : Option Addr} {m c : Nat} {l : List UInt8} (hr : Rd w B 1 A m (l.map bv)) (hB : B ≤ w.heap.size) (hm : m ≤ 1000000) : Calls Tryd.prog 18 #[.int .i64 N, .slice A m c] w (ROf w N l w) := by
  have hl : l.length = m := by have := hr.1; simpa using this
  have HNEW := Lib.hid (show Calls Tryd.prog 22 #[.int .i64 N] w (RNew w (List.replicate N false) w) from by have := rnew_any (Nw.refl w) (N : Int); rwa [show numN (N : Int) = N from by unfold numN; omega] at this)
  have HR := Lib.hid hr; have HL := Lib.hid hl
  clear hr hl h0
  go_enter Tryd.func18, Tryd.ntmps18
  go_wp2_with (refine HNEW.out.mono ?_; rintro e w1 ⟨g, rfl, r1, n1⟩; have R1 := Lib.hid r1; have N1 := Lib.hid n1; clear r1 n1; unfold pv)
  go_loopw [7] (fun i wr => ∃ k : Nat, k ≤ N ∧ i = .int .i64 k ∧ ROfRel w w g N l k wr) (fun i _ => N - (intOf i).toNat)
  case atStart => exact ⟨0, Nat.zero_le _, rfl, by rw [upTo_zero, bitsOf_len]; exact R1.out, N1.out⟩
  case round =>
    obtain ⟨k, hk, rfl, r2, n2⟩ := hrel
    have R2 := Lib.hid r2; have N2 := Lib.hid n2; clear r2 n2 R1 N1
    by_cases hlt : k < N ∧ k / 8 < m
    · obtain ⟨hlt1, hlt2⟩ := hlt
      obtain ⟨b', off', e, hz, _⟩ := (HR.out.nw N2.out hB).atB hlt2
      subst e
      obtain ⟨y, hy⟩ : ∃ y, (l[k / 8]).toNat = y := ⟨_, rfl⟩
      have hcu : ∀ w', Nw wr w' → w'.cell? ⟨b', off' + k / 8, none⟩ = some (.int .u8 (y : Int)) := fun w' n => by
        obtain ⟨b2, off2, e, _, hc⟩ := (HR.out.nw (gb_trans N2.out n) hB).atB hlt2
        injection e with e; injection e with e1 e2; subst e1; subst e2
        rw [hy] at hc; exact hc
      have hy256 : y < 256 := by rw [← hy]; exact UInt8.toNat_lt _
      have hbl := bitsOf_len N l
      have HKB := Lib.hid (show k < (bitsOf N l).length from by rw [hbl]; exact hlt1)
      have HBK := Lib.hid (show (bitsOf N l)[k]'HKB.out = bitAt l k from by
        have h2 : (bitsOf N l)[k]? = some (bitAt l k) := by unfold bitsOf; simp [hlt1]
        rw [List.getElem?_eq_getElem HKB.out] at h2; exact Option.some.inj h2)
      obtain ⟨s, hs⟩ : ∃ s, k % 8 = s := ⟨_, rfl⟩
      have hbit : (y >>> s) &&& 1 = (bitAt l k).toNat := by
        rw [and_one, Nat.testBit_shiftRight, Nat.add_zero, ← hs]
        unfold bitAt
        rw [List.getD_eq_getElem?_getD, List.getElem?_eq_getElem hz, ← hy]
        rfl
      have hs8 : s < 8 := by omega
      have hs1 : (k : Int).tmod 8 = (s : Int) := by rw [Int.tmod_eq_emod_of_nonneg (by omega)]; omega
      obtain ⟨q8, hq8⟩ : ∃ q8, k / 8 = q8 := ⟨_, rfl⟩
      rw [hq8] at hlt2 hcu
      have bw : IntKind.i64.wrap ((k : Int) / 8) = (q8 : Int) := by rw [IntWalk.i64_in _ (by omega)]; omega
      have hq3 : (q8 : Int) < (m : Int) := by omega
      obtain ⟨A3, c3, hc3, ho3, hob3⟩ := R2.out.cell
      have hul := upTo_len false (bitsOf N l) k (by omega)
      rw [hbl] at hul
      obtain ⟨r3, rfl, _⟩ := ho3.some_ (by rw [hul]; omega)
      have HOB3 := Lib.hid hob3; have HOW3 := Lib.hid ho3
      have HUL := Lib.hid hul
      have hcm : ∀ w', Nw wr w' → w'.cell? ⟨g, 0, none⟩ = some (.slice (some ⟨r3, 0, none⟩) N c3) := fun w' n => by rw [(HOB3.out.nw n).cell 0, HUL.out]; rfl
      have HBIT := Lib.hid hbit; have HQ8 := Lib.hid hq8
      clear hob3 ho3 hc3 hul hbl hbit hs hq8
      have b1 : (k : Int) < N := by omega
      go_wp2_with fail
      refine wp_region_U [17] (fun w' => Nw wr w') (by kernel_rfl) ?_
      change wpU _ _ _ _ _ _ _ _ _ (World.drew wr)
      refine U_segL (r := [0, 1, 2, 3, 4, 5, 6, 7, 8, 9, 10, 11, 12, 13, 14, 15, 16]) (fuel := 1) rfl (by kernel_rfl) (by kernel_rfl) (by simp only [List.filterMap_cons, List.filterMap_nil, List.getElem?_toArray, List.getElem?_cons_succ, List.getElem?_cons_zero]; rfl) (fun _ _ d _ _ h => by cases d <;> exact h) (gb_drew (Nw.refl wr)) ?_
      iterate 17 (refine wpYield_step rfl (fun K hK => ?_)
                  apply Exists.intro
                  refine ⟨fun w' hw' => ?_, ?_⟩
                  · (go_simp; try with_reducible rfl)
                  go_simp
                  refine hK _ ?_
                  clear hK K)
      refine wpYield_nil ?_
      refine U_eff 17 rfl (by kernel_rfl) rfl (fun K hK => ?_)
      obtain ⟨q, hq⟩ : ∃ q, bitAt l k = q := ⟨_, rfl⟩
      have HV := Lib.hid (show (((y : Int) / 2 ^ min (IntKind.u64.wrap (s : Int)).toNat 8).tmod 2 == 1) = q from by
        have e1 : (IntKind.u64.wrap (s : Int)).toNat = s := by rw [IntKind.wrap_u64]; omega
        have hb := HBIT.out
        rw [hq] at hb
        rw [e1, Nat.min_eq_left (by omega), shr_cast, Int.tmod_eq_emod_of_nonneg (Int.natCast_nonneg _)]
        rw [Nat.and_one_is_mod] at hb
        generalize y >>> s = a at hb ⊢
        cases q with
        | false => rw [beq_eq_false_iff_ne]; simp only [Bool.toNat_false] at hb; omega
        | true => rw [beq_iff_eq]; simp only [Bool.toNat_true] at hb; omega)
      have HBQ := Lib.hid (HBK.out.trans hq)
      clear hq
      rw [HV.out]
      have hkl : k < (upTo false (bitsOf N l) k).length := by rw [HUL.out]; exact hlt1
      obtain ⟨e0', f0'⟩ := own_bit HOW3.out hkl
      have e0 : wr.drew.cell? ⟨r3, k, none⟩ = _ := e0'
      have f0 : wr.drew.frozen? ⟨r3, k, none⟩ = false := f0'
      go_simp
      refine hK _ _ ⟨until_past (by kernel_rfl), ?_⟩
      clear hK K
      refine U_done (by kernel_rfl) ?_ _
      obtain ⟨s3, _⟩ := R2.out.put HOB3.out HOW3.out (k := k) q
      have hset := upTo_set false (bitsOf N l) k HKB.out
      rw [HBQ.out] at hset
      rw [hset] at s3
      have R3 := Lib.hid (s3.more (gb_drew (Nw.refl _)))
      have N3 := Lib.hid R3.out.nw
      clear e0 f0 e0' f0' hcu hcm hset s3 hkl hs1 bw
      go_wp2
      exact ⟨⟨k + 1, hlt1, by go_num, R3.out, N3.out⟩, by simp [intOf]; omega⟩
    · have hcs : k = N ∨ m ≤ k / 8 := by omega
      have r3 := R2.out
      rw [upTo_end HL.out hk hcs] at r3
      have R3 := Lib.hid r3
      have HBY := Lib.hid (fun (w' : World) (h : RS w w' g (bitsOf N l)) => rbytes_any h)
      clear r3 R2
      have hx : (¬ (k : Int) < N) ∨ ((k : Int) < N ∧ ¬ k / 8 < m ∧ decide ((k : Int) / 8 < (m : Int)) = false) := by
        by_cases h1 : k < N
        · right; refine ⟨by omega, by omega, by simp; omega⟩
        · left; omega
      clear hlt hcs
      unfold pv at HBY
      cases hok : okB N l with
      | true =>
        have HOK := Lib.hid hok
        rw [(okB_iff N l).1 hok] at HBY
        clear hok
        rcases hx with hx | ⟨hx, hx2, hx3⟩
        all_goals
          go_upto_region 8 with fail
          refine wp_region_held (S := (fun w' => Nw wr w')) (by kernel_rfl) ?_
          change wpAnyH _ _ _ _ _ _ _ _ (World.drew wr)
          refine held_seg' (l := [0, 3, 4]) (fuel := 3) rfl (by kernel_rfl) (by kernel_rfl) (by simp only [List.filterMap_cons, List.filterMap_nil, List.getElem?_toArray, List.getElem?_cons_succ, List.getElem?_cons_zero]; rfl) (fun _ _ d _ _ h => by cases d <;> exact h) (gb_drew (Nw.refl wr)) ?_
          iterate 2 (refine wpYield_step rfl (fun K hK => ?_)
                     apply Exists.intro
                     refine ⟨fun w' hw' => ?_, ?_⟩
                     · (go_simp; try with_reducible rfl)
                     go_simp
                     refine hK _ ?_
                     clear hK K)
          refine wpYield_bytes_str 28 9 5 Tryd.underlying28 Tryd.underlying5 Tryd.underlying9 _ rfl rfl rfl (fun w' hw' => HR.out.nw (gb_trans N2.out hw') hB) ?_
          refine wpYield_nil ?_
          refine held_eff 1 rfl (by kernel_rfl) rfl (fun K hK => ?_)
          go_simp
          refine (HBY.out _ (R3.out.more (gb_drew (Nw.refl wr)))).mono ?_
          rintro e w8 ⟨A8, n8, c8, rfl, o8, n8'⟩
          have n8'' : Nw wr w8 := gb_of_drew n8'
          have R8 := Lib.hid (R3.out.more n8''); have O8 := Lib.hid o8
          refine hK _ _ ⟨n8'', ?_⟩
          clear hK K
          refine wpAnyH_mono (S' := fun w' => Nw w8 w') (fun w' h => gb_trans n8'' h) _ _ _ _ ?_
          clear o8 n8' n8''
          refine held_seg' (l := [2, 5]) (fuel := 0) rfl (by kernel_rfl) (by kernel_rfl) (by simp only [List.filterMap_cons, List.filterMap_nil, List.getElem?_toArray, List.getElem?_cons_succ, List.getElem?_cons_zero]; rfl) (fun _ _ d _ _ h => by cases d <;> exact h) (Nw.refl w8) ?_
          refine wpYield_bytes_str 28 9 5 Tryd.underlying28 Tryd.underlying5 Tryd.underlying9 _ rfl rfl rfl (fun w' hw' => O8.out.rd.nw hw' (Nat.le_refl _)) ?_
          (refine wpYield_step rfl (fun K hK => ?_)
           apply Exists.intro
           refine ⟨fun w' hw' => ?_, ?_⟩
           · (go_simp; try with_reducible rfl)
           go_simp
           refine hK _ ?_
           clear hK K)
          refine wpYield_nil ?_
          refine wpAnyH_done (by kernel_rfl) ?_ _
          go_wp2
          go_ret2
          unfold ROf
          rw [if_pos HOK.out]
          exact ⟨g, rfl, R8.out, R8.out.nw⟩
      | false =>
        have HOK := Lib.hid hok
        obtain ⟨l2, hl2⟩ : ∃ l2, bytesOf (bitsOf N l) = l2 := ⟨_, rfl⟩
        have hne : (l2 == l) = false := by
          rw [beq_eq_false_iff_ne]
          intro h
          rw [(okB_iff N l).2 (hl2.trans h)] at hok
          cases hok
        rw [hl2] at HBY
        clear hok hl2
        rcases hx with hx | ⟨hx, hx2, hx3⟩
        all_goals
          go_upto_region 8 with fail
          refine wp_region_held (S := (fun w' => Nw wr w')) (by kernel_rfl) ?_
          change wpAnyH _ _ _ _ _ _ _ _ (World.drew wr)
          refine held_seg' (l := [0, 3, 4]) (fuel := 3) rfl (by kernel_rfl) (by kernel_rfl) (by simp only [List.filterMap_cons, List.filterMap_nil, List.getElem?_toArray, List.getElem?_cons_succ, List.getElem?_cons_zero]; rfl) (fun _ _ d _ _ h => by cases d <;> exact h) (gb_drew (Nw.refl wr)) ?_
          iterate 2 (refine wpYield_step rfl (fun K hK => ?_)
                     apply Exists.intro
                     refine ⟨fun w' hw' => ?_, ?_⟩
                     · (go_simp; try with_reducible rfl)
                     go_simp
                     refine hK _ ?_
                     clear hK K)
          refine wpYield_bytes_str 28 9 5 Tryd.underlying28 Tryd.underlying5 Tryd.underlying9 _ rfl rfl rfl (fun w' hw' => HR.out.nw (gb_trans N2.out hw') hB) ?_
          refine wpYield_nil ?_
          refine held_eff 1 rfl (by kernel_rfl) rfl (fun K hK => ?_)
          go_simp
          refine (HBY.out _ (R3.out.more (gb_drew (Nw.refl wr)))).mono ?_
          rintro e w8 ⟨A8, n8, c8, rfl, o8, n8'⟩
          have n8'' : Nw wr w8 := gb_of_drew n8'
          have R8 := Lib.hid (R3.out.more n8''); have O8 := Lib.hid o8
          refine hK _ _ ⟨n8'', ?_⟩
          clear hK K
          refine wpAnyH_mono (S' := fun w' => Nw w8 w') (fun w' h => gb_trans n8'' h) _ _ _ _ ?_
          clear o8 n8' n8''
          refine held_seg' (l := [2, 5]) (fuel := 0) rfl (by kernel_rfl) (by kernel_rfl) (by simp only [List.filterMap_cons, List.filterMap_nil, List.getElem?_toArray, List.getElem?_cons_succ, List.getElem?_cons_zero]; rfl) (fun _ _ d _ _ h => by cases d <;> exact h) (Nw.refl w8) ?_
          refine wpYield_bytes_str 28 9 5 Tryd.underlying28 Tryd.underlying5 Tryd.underlying9 _ rfl rfl rfl (fun w' hw' => O8.out.rd.nw hw' (Nat.le_refl _)) ?_
          (refine wpYield_step rfl (fun K hK => ?_)
           apply Exists.intro
           refine ⟨fun w' hw' => ?_, ?_⟩
           · (go_simp; try with_reducible rfl)
           go_simp
           refine hK _ ?_
           clear hK K)
          refine wpYield_nil ?_
          refine wpAnyH_done (by kernel_rfl) ?_ _
          go_wp2
          go_ret2
          unfold ROf
          rw [if_neg (by rw [HOK.out]; decide)]
          exact ⟨rfl, R8.out.nw⟩
end Go.Proofs.YtoinkofoaodkhaaDoor

