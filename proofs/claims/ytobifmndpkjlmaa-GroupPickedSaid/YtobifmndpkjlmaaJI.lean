/- group.byRoom: the disks that have room, and that may be, in their order; once for each closure that the program hands it. Printed by gen_room.py. -/
import Derived.Test.YtobifmndpkjlmaaJH
import Derived.Test.YtobifmndpkjlmaaJD
set_option linter.unusedVariables false
set_option linter.unusedSimpArgs false
/- group.byRoom: the disks that have room, and that may be, in their order; once for each closure that the program hands it. Printed by gen_room.py. -/
namespace Go.Proofs.Ytobifmndpkjlmaa
open Go.RowKit Go.BW

def RoomPost (rs : List Int) (p : Nat → Bool) (w : World) (e : Ending) (w' : World) : Prop :=
  ∃ A' n' c' l, e = .returned (.slice A' n' c') ∧ Own w' w.heap.size 3 1 A' n' c' (l.map nv) ∧ Ranked rs (fun d => p d = true) l ∧ Nw w w'

set_option maxHeartbeats 8000000 in
theorem byroom27_any {K : Nat} (hK : StableOK K) {w : World} {B n c : Nat} {A : Option Addr} {rs : List Int} (hr : Rd w B 1 A n (rs.map iv)) (hB : B ≤ w.heap.size) (hn : n ≤ K) (hm : n ≤ 1000000) (c1 : Value) (p : Nat → Bool)
    (HF : ∀ d, d < n → ∀ w', Nw w w' → Calls Try.prog 27 #[.int .i64 (d : Nat), c1] w' (Ret (.bool (p d)) w')) :
    Calls Try.prog 26 #[.slice A n c, .func (.func 27) #[] #[c1]] w (RoomPost rs p w) := by
  have hlen : rs.length = n := by have := hr.1; simpa using this
  have hbox := Obj1.new w 22 #[.slice A n c]
  have hn0 := World.grownBy_alloc w (.cells #[.slice A n c] 22) none
  have HF' := Lib.hid HF
  have HKK := Lib.hid hK
  have HL := Lib.hid hlen
  go_enter Try.func26, Try.ntmps26
  go_wp2_with fail
  have HBX := Lib.hid hbox
  have N0 := Lib.hid hn0
  obtain ⟨W, hW⟩ : ∃ W, w.alloc (.cells #[.slice A n c] 22) = W := ⟨_, rfl⟩
  rw [hW] at HBX N0 ⊢
  obtain ⟨y, hy⟩ : ∃ y, w.heap.size = y := ⟨_, rfl⟩
  rw [hy] at HBX ⊢
  have HY := Lib.hid hy
  have HYW := Lib.hid HBX.out.lt
  have HR := Lib.hid (hr.nw N0.out hB)
  have HBW := Lib.hid (Nat.le_trans hB N0.out.size)
  have HBY := Lib.hid (show B ≤ y by rw [← hy]; exact hB)
  clear hbox hn0 hW hy HF hK hlen hr hB
  go_loopw [5, 10] (fun s v wr => ∃ (k : Nat) (A' : Option Addr) (n' c' : Nat) (L : List Nat), v = .int .i64 k ∧ s = .slice A' n' c' ∧ k ≤ n ∧ n' ≤ k ∧ Hid (Own wr W.heap.size 3 1 A' n' c' (L.map nv)) ∧ Hid (L.Pairwise (· < ·)) ∧ Hid (∀ d, d ∈ L ↔ d < k ∧ 0 < rs.getD d 0 ∧ p d = true) ∧ Nw W wr) (fun _ v _ => n - (intOf v).toNat)
  case atStart => exact ⟨0, none, 0, 0, [], rfl, rfl, Nat.zero_le _, Nat.le_refl _, Lib.hid Own.nil, Lib.hid List.Pairwise.nil, Lib.hid (fun d => by simp), Nw.refl _⟩
  case round =>
    obtain ⟨k, A', n', c', L, rfl, rfl, hk, hnk, ho, hup, hmem, hnw⟩ := hrel
    by_cases hlt : k < n
    · have hltz : (k : Int) < (n : Int) := by omega
      obtain ⟨b, off, hA, hc⟩ := atD (HR.out.nw hnw HBW.out) hlt
      subst hA
      obtain ⟨x, hx⟩ : ∃ x, rs.getD k 0 = x := ⟨_, rfl⟩
      rw [hx] at hc
      have HX := Lib.hid hx
      clear hx
      rcases (show x ≤ 0 ∨ 0 < x by omega) with h0 | h0
      · have d0 : decide ((0 : Int) < x) = false := decide_eq_false (by omega)
        have HM := Lib.hid (show ∀ d, d ∈ L ↔ d < k + 1 ∧ 0 < rs.getD d 0 ∧ p d = true from fun d => by
          rw [hmem.out d]
          constructor
          · rintro ⟨h1, h2⟩; exact ⟨by omega, h2⟩
          · rintro ⟨h1, h2, h3⟩
            refine ⟨?_, h2, h3⟩
            by_cases hdk : d = k
            · subst hdk; rw [HX.out] at h2; omega
            · omega)
        clear hmem
        go_wp2_with fail
        go_roundw
        case rel => exact ⟨k + 1, A', n', c', L, by go_num, rfl, by omega, by omega, ho, hup, HM, hnw⟩
        case measure => simp only [intOf]; omega
      · have d0 : decide ((0 : Int) < x) = true := decide_eq_true h0
        have HC := Lib.hid (HF'.out k hlt wr (gb_trans N0.out hnw))
        obtain ⟨q, hq⟩ : ∃ q, p k = q := ⟨_, rfl⟩
        rw [hq] at HC
        have HQ := Lib.hid hq
        unfold Ret at HC
        clear hq
        rcases q with _ | _
        · have HM := Lib.hid (show ∀ d, d ∈ L ↔ d < k + 1 ∧ 0 < rs.getD d 0 ∧ p d = true from fun d => by
            rw [hmem.out d]
            constructor
            · rintro ⟨h1, h2⟩; exact ⟨by omega, h2⟩
            · rintro ⟨h1, h2, h3⟩
              refine ⟨?_, h2, h3⟩
              by_cases hdk : d = k
              · subst hdk; rw [HQ.out] at h3; cases h3
              · omega)
          clear hmem
          go_wp2_with ((with_reducible refine HC.out.mono ?_); rintro e w2 ⟨rfl, n2⟩)
          go_roundw
          case rel => exact ⟨k + 1, A', n', c', L, by go_num, rfl, by omega, by omega, Lib.hid (ho.out.nw n2), hup, HM, gb_trans hnw n2⟩
          case measure => simp only [intOf]; omega
        · have HM := Lib.hid (show ∀ d, d ∈ L ++ [k] ↔ d < k + 1 ∧ 0 < rs.getD d 0 ∧ p d = true from fun d => by
            rw [List.mem_append, hmem.out d, List.mem_singleton]
            constructor
            · rintro (⟨h1, h2⟩ | h1)
              · exact ⟨by omega, h2⟩
              · subst h1; exact ⟨by omega, by rw [HX.out]; exact h0, HQ.out⟩
            · rintro ⟨h1, h2, h3⟩
              by_cases hdk : d = k
              · exact .inr hdk
              · exact .inl ⟨by omega, h2, h3⟩)
          have HU := Lib.hid (show (L ++ [k]).Pairwise (· < ·) from by
            rw [List.pairwise_append]
            refine ⟨hup.out, List.pairwise_singleton _ _, fun a ha b hb => ?_⟩
            rw [List.mem_singleton] at hb; subst hb
            exact ((hmem.out a).1 ha).1)
          have hsm : (n' + 1) * 8 ≤ 140737488355328 ∧ n' + 1 ≤ maxLen := by unfold maxLen; omega
          have HSZ := Lib.hid hnw.size
          clear hmem
          go_wp2_with (first
            | (at_builtin; (with_reducible refine wpList_app1_own T22 _ _ (by with_unfolding_all exact rfl) (by with_unfolding_all exact rfl) (by with_unfolding_all exact rfl) (by with_unfolding_all exact rfl) (ho.out.nw n2) (by with_unfolding_all exact rfl) hsm HS2.out ?_); intro A'' c'' w3 h2 h3 h4)
            | ((with_reducible refine HC.out.mono ?_); rintro e w2 ⟨rfl, n2⟩; have HS2 := Lib.hid (Nat.le_trans HSZ.out n2.size)))
          go_roundw
          case rel => exact ⟨k + 1, A'', n' + 1, c'', L ++ [k], by go_num, rfl, by omega, by omega, Lib.hid (by rw [List.map_append]; exact h2), HU, HM, nw_of_gb (gb_trans hnw n2) h3 (fun g hg => ho.out.blk g hg)⟩
          case measure => simp only [intOf]; omega
    · have hkn : k = n := by omega
      have hmem' := hmem.out
      rw [hkn] at hmem'
      have HM := Lib.hid hmem'
      clear hkn hmem hmem'
      rcases Nat.eq_zero_or_pos n' with hz | hz
      · subst hz
        have HS := Lib.hid (sortst_zero A' c' (.func (.func 40) #[] #[.pointer (some ⟨y, 0, none⟩)]) wr)
        have HLN := Lib.hid (show L = [] from by have := ho.out.len; simpa using this)
        go_wp2_with ((with_reducible refine HS.out.mono ?_); rintro e w2 ⟨rfl, rfl⟩)
        go_ret
        refine ⟨A', 0, c', L, rfl, ho.out.more (by rw [HY.out]; exact Nat.le_of_lt HYW.out), ⟨by rw [HLN.out]; exact List.Pairwise.nil, fun d => by rw [HM.out d, HL.out]⟩, gb_trans N0.out hnw⟩
      · obtain ⟨g, hA', hgW⟩ := ho.out.some_ hz
        subst hA'
        have HCm := Lib.hid (show Cmp wr g y A n c rs from ⟨(HBX.out.nw hnw).cell 0, by have := HYW.out; omega, (HR.out.nw hnw HBW.out).more (by have := HYW.out; have := HBY.out; omega), by omega, HL.out⟩)
        have HS := Lib.hid (sortst_any HKK.out ho.out HCm.out hz (by omega) (fun x hx => ((HM.out x).1 hx).1) hup.out)
        unfold StPost at HS
        go_wp2_with ((with_reducible refine HS.out.mono ?_); rintro e w2 ⟨rfl, M, hp, hw, ho2, hg2⟩; have HP := Lib.hid hp; have HW2 := Lib.hid hw; have HO2 := Lib.hid ho2; have HG2 := Lib.hid hg2; clear hp hw ho2 hg2)
        go_ret
        refine ⟨some ⟨g, 0, none⟩, n', c', M, rfl, HO2.out.more (by rw [HY.out]; exact Nat.le_of_lt HYW.out), ⟨HW2.out, fun d => by rw [HP.out.mem_iff, HM.out d, HL.out]⟩, gb_trans N0.out (nw_of_gb hnw HG2.out (fun z hz => by injection hz with hz; omega))⟩


set_option maxHeartbeats 8000000 in
theorem byroom34_any {K : Nat} (hK : StableOK K) {w : World} {B n c : Nat} {A : Option Addr} {rs : List Int} (hr : Rd w B 1 A n (rs.map iv)) (hB : B ≤ w.heap.size) (hn : n ≤ K) (hm : n ≤ 1000000) (c1 c2 : Value) (p : Nat → Bool)
    (HF : ∀ d, d < n → ∀ w', Nw w w' → Calls Try.prog 34 #[.int .i64 (d : Nat), c1, c2] w' (Ret (.bool (p d)) w')) :
    Calls Try.prog 26 #[.slice A n c, .func (.func 34) #[] #[c1, c2]] w (RoomPost rs p w) := by
  have hlen : rs.length = n := by have := hr.1; simpa using this
  have hbox := Obj1.new w 22 #[.slice A n c]
  have hn0 := World.grownBy_alloc w (.cells #[.slice A n c] 22) none
  have HF' := Lib.hid HF
  have HKK := Lib.hid hK
  have HL := Lib.hid hlen
  go_enter Try.func26, Try.ntmps26
  go_wp2_with fail
  have HBX := Lib.hid hbox
  have N0 := Lib.hid hn0
  obtain ⟨W, hW⟩ : ∃ W, w.alloc (.cells #[.slice A n c] 22) = W := ⟨_, rfl⟩
  rw [hW] at HBX N0 ⊢
  obtain ⟨y, hy⟩ : ∃ y, w.heap.size = y := ⟨_, rfl⟩
  rw [hy] at HBX ⊢
  have HY := Lib.hid hy
  have HYW := Lib.hid HBX.out.lt
  have HR := Lib.hid (hr.nw N0.out hB)
  have HBW := Lib.hid (Nat.le_trans hB N0.out.size)
  have HBY := Lib.hid (show B ≤ y by rw [← hy]; exact hB)
  clear hbox hn0 hW hy HF hK hlen hr hB
  go_loopw [5, 10] (fun s v wr => ∃ (k : Nat) (A' : Option Addr) (n' c' : Nat) (L : List Nat), v = .int .i64 k ∧ s = .slice A' n' c' ∧ k ≤ n ∧ n' ≤ k ∧ Hid (Own wr W.heap.size 3 1 A' n' c' (L.map nv)) ∧ Hid (L.Pairwise (· < ·)) ∧ Hid (∀ d, d ∈ L ↔ d < k ∧ 0 < rs.getD d 0 ∧ p d = true) ∧ Nw W wr) (fun _ v _ => n - (intOf v).toNat)
  case atStart => exact ⟨0, none, 0, 0, [], rfl, rfl, Nat.zero_le _, Nat.le_refl _, Lib.hid Own.nil, Lib.hid List.Pairwise.nil, Lib.hid (fun d => by simp), Nw.refl _⟩
  case round =>
    obtain ⟨k, A', n', c', L, rfl, rfl, hk, hnk, ho, hup, hmem, hnw⟩ := hrel
    by_cases hlt : k < n
    · have hltz : (k : Int) < (n : Int) := by omega
      obtain ⟨b, off, hA, hc⟩ := atD (HR.out.nw hnw HBW.out) hlt
      subst hA
      obtain ⟨x, hx⟩ : ∃ x, rs.getD k 0 = x := ⟨_, rfl⟩
      rw [hx] at hc
      have HX := Lib.hid hx
      clear hx
      rcases (show x ≤ 0 ∨ 0 < x by omega) with h0 | h0
      · have d0 : decide ((0 : Int) < x) = false := decide_eq_false (by omega)
        have HM := Lib.hid (show ∀ d, d ∈ L ↔ d < k + 1 ∧ 0 < rs.getD d 0 ∧ p d = true from fun d => by
          rw [hmem.out d]
          constructor
          · rintro ⟨h1, h2⟩; exact ⟨by omega, h2⟩
          · rintro ⟨h1, h2, h3⟩
            refine ⟨?_, h2, h3⟩
            by_cases hdk : d = k
            · subst hdk; rw [HX.out] at h2; omega
            · omega)
        clear hmem
        go_wp2_with fail
        go_roundw
        case rel => exact ⟨k + 1, A', n', c', L, by go_num, rfl, by omega, by omega, ho, hup, HM, hnw⟩
        case measure => simp only [intOf]; omega
      · have d0 : decide ((0 : Int) < x) = true := decide_eq_true h0
        have HC := Lib.hid (HF'.out k hlt wr (gb_trans N0.out hnw))
        obtain ⟨q, hq⟩ : ∃ q, p k = q := ⟨_, rfl⟩
        rw [hq] at HC
        have HQ := Lib.hid hq
        unfold Ret at HC
        clear hq
        rcases q with _ | _
        · have HM := Lib.hid (show ∀ d, d ∈ L ↔ d < k + 1 ∧ 0 < rs.getD d 0 ∧ p d = true from fun d => by
            rw [hmem.out d]
            constructor
            · rintro ⟨h1, h2⟩; exact ⟨by omega, h2⟩
            · rintro ⟨h1, h2, h3⟩
              refine ⟨?_, h2, h3⟩
              by_cases hdk : d = k
              · subst hdk; rw [HQ.out] at h3; cases h3
              · omega)
          clear hmem
          go_wp2_with ((with_reducible refine HC.out.mono ?_); rintro e w2 ⟨rfl, n2⟩)
          go_roundw
          case rel => exact ⟨k + 1, A', n', c', L, by go_num, rfl, by omega, by omega, Lib.hid (ho.out.nw n2), hup, HM, gb_trans hnw n2⟩
          case measure => simp only [intOf]; omega
        · have HM := Lib.hid (show ∀ d, d ∈ L ++ [k] ↔ d < k + 1 ∧ 0 < rs.getD d 0 ∧ p d = true from fun d => by
            rw [List.mem_append, hmem.out d, List.mem_singleton]
            constructor
            · rintro (⟨h1, h2⟩ | h1)
              · exact ⟨by omega, h2⟩
              · subst h1; exact ⟨by omega, by rw [HX.out]; exact h0, HQ.out⟩
            · rintro ⟨h1, h2, h3⟩
              by_cases hdk : d = k
              · exact .inr hdk
              · exact .inl ⟨by omega, h2, h3⟩)
          have HU := Lib.hid (show (L ++ [k]).Pairwise (· < ·) from by
            rw [List.pairwise_append]
            refine ⟨hup.out, List.pairwise_singleton _ _, fun a ha b hb => ?_⟩
            rw [List.mem_singleton] at hb; subst hb
            exact ((hmem.out a).1 ha).1)
          have hsm : (n' + 1) * 8 ≤ 140737488355328 ∧ n' + 1 ≤ maxLen := by unfold maxLen; omega
          have HSZ := Lib.hid hnw.size
          clear hmem
          go_wp2_with (first
            | (at_builtin; (with_reducible refine wpList_app1_own T22 _ _ (by with_unfolding_all exact rfl) (by with_unfolding_all exact rfl) (by with_unfolding_all exact rfl) (by with_unfolding_all exact rfl) (ho.out.nw n2) (by with_unfolding_all exact rfl) hsm HS2.out ?_); intro A'' c'' w3 h2 h3 h4)
            | ((with_reducible refine HC.out.mono ?_); rintro e w2 ⟨rfl, n2⟩; have HS2 := Lib.hid (Nat.le_trans HSZ.out n2.size)))
          go_roundw
          case rel => exact ⟨k + 1, A'', n' + 1, c'', L ++ [k], by go_num, rfl, by omega, by omega, Lib.hid (by rw [List.map_append]; exact h2), HU, HM, nw_of_gb (gb_trans hnw n2) h3 (fun g hg => ho.out.blk g hg)⟩
          case measure => simp only [intOf]; omega
    · have hkn : k = n := by omega
      have hmem' := hmem.out
      rw [hkn] at hmem'
      have HM := Lib.hid hmem'
      clear hkn hmem hmem'
      rcases Nat.eq_zero_or_pos n' with hz | hz
      · subst hz
        have HS := Lib.hid (sortst_zero A' c' (.func (.func 40) #[] #[.pointer (some ⟨y, 0, none⟩)]) wr)
        have HLN := Lib.hid (show L = [] from by have := ho.out.len; simpa using this)
        go_wp2_with ((with_reducible refine HS.out.mono ?_); rintro e w2 ⟨rfl, rfl⟩)
        go_ret
        refine ⟨A', 0, c', L, rfl, ho.out.more (by rw [HY.out]; exact Nat.le_of_lt HYW.out), ⟨by rw [HLN.out]; exact List.Pairwise.nil, fun d => by rw [HM.out d, HL.out]⟩, gb_trans N0.out hnw⟩
      · obtain ⟨g, hA', hgW⟩ := ho.out.some_ hz
        subst hA'
        have HCm := Lib.hid (show Cmp wr g y A n c rs from ⟨(HBX.out.nw hnw).cell 0, by have := HYW.out; omega, (HR.out.nw hnw HBW.out).more (by have := HYW.out; have := HBY.out; omega), by omega, HL.out⟩)
        have HS := Lib.hid (sortst_any HKK.out ho.out HCm.out hz (by omega) (fun x hx => ((HM.out x).1 hx).1) hup.out)
        unfold StPost at HS
        go_wp2_with ((with_reducible refine HS.out.mono ?_); rintro e w2 ⟨rfl, M, hp, hw, ho2, hg2⟩; have HP := Lib.hid hp; have HW2 := Lib.hid hw; have HO2 := Lib.hid ho2; have HG2 := Lib.hid hg2; clear hp hw ho2 hg2)
        go_ret
        refine ⟨some ⟨g, 0, none⟩, n', c', M, rfl, HO2.out.more (by rw [HY.out]; exact Nat.le_of_lt HYW.out), ⟨HW2.out, fun d => by rw [HP.out.mem_iff, HM.out d, HL.out]⟩, gb_trans N0.out (nw_of_gb hnw HG2.out (fun z hz => by injection hz with hz; omega))⟩

end Go.Proofs.Ytobifmndpkjlmaa


/- group.Pick: disks for a new group. -/
namespace Go.Proofs.Ytobifmndpkjlmaa
open Go.RowKit Go.BW

theorem indexI_any {w : World} {B n c : Nat} {A : Option Addr} {zs : List Int} (hr : Rd w B 1 A n (zs.map iv)) (hs : n ≤ 9223372036854775807) (x : Int) : Calls Try.prog 42 #[.slice A n c, .int .i64 x] w (fun e w' => e = .returned (.int .i64 (idxZ (· == x) zs)) ∧ w = w') := by
  have hlen : zs.length = n := by have := hr.1; simpa using this
  have HR := Lib.hid hr
  clear hr
  go_enter Try.func42, Try.ntmps42
  go_wp2_with fail
  go_loopw [8] (fun v wr => ∃ k : Nat, k ≤ n ∧ v = .int .i64 k ∧ Hid ((zs.take k).any (· == x) = false) ∧ w = wr) (fun v _ => n - (intOf v).toNat)
  case atStart => exact ⟨0, Nat.zero_le _, rfl, Lib.hid rfl, by first | rfl | trivial⟩
  case round =>
    obtain ⟨j, hj, rfl, hno, rfl⟩ := hrel
    by_cases hlt : j < n
    · obtain ⟨b', off, rfl, hln, hc0⟩ := HR.out.atI hlt
      have hlt' : (j : Int) < (n : Int) := by omega
      have HX := Lib.hid (List.getElem?_eq_getElem hln)
      obtain ⟨z, hz⟩ : ∃ z, zs[j] = z := ⟨_, rfl⟩
      rw [hz] at HX hc0
      clear hz
      by_cases hzx : z = x
      · have hq : (x == z) = true := by simpa using hzx.symm
        have HF := Lib.hid (idxZ_at hno.out HX.out (by simpa using hzx))
        clear hzx
        go_wp2
        go_ret
        exact ⟨by rw [HF.out]; rfl, by first | rfl | trivial⟩
      · have hq : (x == z) = false := by rw [beq_eq_false_iff_ne]; exact fun e => hzx e.symm
        have HN := Lib.hid (show (zs.take (j + 1)).any (· == x) = false by rw [any_snoc hno.out HX.out]; simpa using hzx)
        clear hzx
        go_wp2
        go_roundw
        case rel => exact ⟨j + 1, by omega, by go_num, HN, by first | rfl | trivial⟩
        case measure => simp only [intOf]; omega
    · have hk' : j = n := by omega
      have H := Lib.hid (idxZ_no (show zs.any (· == x) = false by have h1 := hno.out; rwa [List.take_of_length_le (by omega)] at h1))
      clear hk'
      go_wp2
      go_ret
      exact ⟨by rw [H.out]; rfl, by first | rfl | trivial⟩
theorem contains_any {w : World} {B n c : Nat} {A : Option Addr} {zs : List Int} (hr : Rd w B 1 A n (zs.map iv)) (hs : n ≤ 9223372036854775807) (x : Int) : Calls Try.prog 28 #[.slice A n c, .int .i64 x] w (fun e w' => e = .returned (.bool (zs.any (· == x))) ∧ w = w') := by
  have HI := Lib.hid (indexI_any (c := c) hr hs x)
  have hv := idxZ_nn (· == x) zs
  obtain ⟨v, hvv⟩ : ∃ v, idxZ (· == x) zs = v := ⟨_, rfl⟩
  rw [hvv] at HI hv
  have HV := Lib.hid hv
  clear hr hvv hv
  go_enter Try.func28, Try.ntmps28
  go_wp2_with ((with_reducible refine HI.out.mono ?_); rintro e w2 ⟨rfl, rfl⟩)
  go_ret
  exact ⟨by rw [← HV.out]; rfl, rfl⟩
/-- Pick's closure: is a disk not banned? -/
theorem free_any {w : World} {B n c y : Nat} {A : Option Addr} {zs : List Int} (hr : Rd w B 1 A n (zs.map iv)) (hs : n ≤ 9223372036854775807) (hc : w.cell? ⟨y, 0, none⟩ = some (.slice A n c)) (x : Int) :
    Calls Try.prog 27 #[.int .i64 x, .pointer (some ⟨y, 0, none⟩)] w (Ret (.bool (!zs.any (· == x))) w) := by
  have HI := Lib.hid (contains_any (c := c) hr hs x)
  obtain ⟨q, hq⟩ : ∃ q, zs.any (· == x) = q := ⟨_, rfl⟩
  rw [hq] at HI ⊢
  clear hr hq
  go_enter Try.func27, Try.ntmps27
  go_wp2_with ((with_reducible refine HI.out.mono ?_); rintro e w2 ⟨rfl, rfl⟩)
  go_ret
  exact ⟨rfl, Nw.refl _⟩
def PickPost (rs : List Int) (wd : Int) (ban : List Int) (w : World) (e : Ending) (w' : World) : Prop :=
  ∃ l, Ranked rs (fun d => (d : Int) ∉ ban) l ∧ Nw w w' ∧
    (((wd < 1 ∨ (l.length : Int) < wd) ∧ e = .returned (.tuple #[.slice none 0 0, .bool false])) ∨
     ∃ (k : Nat) (A : Option Addr), wd = (k : Int) ∧ 1 ≤ k ∧ k ≤ l.length ∧ e = .returned (.tuple #[.slice A k k, .bool true]) ∧ Rd w' w'.heap.size 1 A k ((l.take k).map nv) ∧ (∀ b o, A = some ⟨b, o, none⟩ → w.heap.size ≤ b))
theorem ranked_congr {rs : List Int} {p q : Nat → Prop} {l : List Nat} (h : Ranked rs p l) (hpq : ∀ d, p d ↔ q d) : Ranked rs q l := ⟨h.ord, fun d => by rw [h.mem d, hpq d]⟩
set_option maxHeartbeats 2000000 in
theorem pick_any {K : Nat} (hK : StableOK K) {w : World} {B n c m c2 : Nat} {A A2 : Option Addr} {rs ban : List Int} (hr : Rd w B 1 A n (rs.map iv)) (hb : Rd w B 1 A2 m (ban.map iv)) (hB : B ≤ w.heap.size) (hn : n ≤ K) (hm : n ≤ 1000000) (hs : m ≤ 9223372036854775807)
    (wd : Int) : Calls Try.prog 11 #[.slice A n c, .int .i64 wd, .slice A2 m c2] w (PickPost rs wd ban w) := by
  have hbox := Obj1.new w 22 #[.slice A2 m c2]
  have hn0 := World.grownBy_alloc w (.cells #[.slice A2 m c2] 22) none
  have HC := Lib.hid (byroom27_any (c := c) hK (hr.nw hn0 hB) (Nat.le_trans hB hn0.size) hn hm (.pointer (some ⟨w.heap.size, 0, none⟩)) (fun d => !ban.any (· == (d : Int)))
    (fun d _ w' hw' => free_any ((hb.nw hn0 hB).nw hw' (Nat.le_trans hB hn0.size)) hs ((hbox.nw hw').cell 0) (d : Int)))
  have N0 := Lib.hid hn0
  have HP := Lib.hid (show ∀ d : Nat, (!ban.any (· == (d : Int))) = true ↔ (d : Int) ∉ ban from fun d => by rw [Bool.not_eq_true', any_not])
  unfold RoomPost at HC
  clear hbox hn0 hr hb hK
  go_enter Try.func11, Try.ntmps11
  go_upto_region 2 with ((with_reducible refine HC.out.mono ?_); rintro e w2 ⟨A', n', c', l, rfl, ho, hl, n2⟩; have HO := Lib.hid ho; have HL := Lib.hid hl; have N2 := Lib.hid (gb_trans N0.out n2); clear ho hl n2)
  have hlen : l.length = n' := by have := HO.out.len; simpa using this
  have HR := Lib.hid (ranked_congr HL.out HP.out)
  have hcap := HO.out.cap
  rcases (show wd < 1 ∨ 1 ≤ wd by omega) with h1 | h1
  · go_wp2
    go_ret2
    exact ⟨l, HR.out, N2.out, .inl ⟨.inl h1, rfl⟩⟩
  · have d1 : decide (wd < 1) = false := decide_eq_false (by omega)
    obtain ⟨k, rfl⟩ := Int.eq_ofNat_of_zero_le (show 0 ≤ wd by omega)
    rcases (show n' < k ∨ k ≤ n' by omega) with h2 | h2
    · have h2z : (n' : Int) < (k : Int) := by omega
      go_wp2
      go_ret2
      exact ⟨l, HR.out, N2.out, .inl ⟨.inr (by omega), rfl⟩⟩
    · have h2z : ¬ (n' : Int) < (k : Int) := by omega
      have h3z : (k : Int) ≤ (c' : Int) := by omega
      go_wp2
      go_ret2
      refine ⟨l, HR.out, N2.out, .inr ⟨k, A', rfl, by omega, by omega, rfl, ?_, ?_⟩⟩
      · have h := HO.out.rd.take h2
        rw [Nat.mul_one, ← List.map_take] at h
        exact h
      · rintro b o rfl
        obtain ⟨g, e, hg⟩ := HO.out.some_ (by omega)
        injection e with e; injection e with e1 e2
        rw [e1]
        exact Nat.le_trans N0.out.size hg
end Go.Proofs.Ytobifmndpkjlmaa


/- slices.IndexFunc over groups, for the closure that the program hands it; under a premise on the closure. Printed by gen_idx.py. -/
namespace Go.Proofs.Ytobifmndpkjlmaa
open Go.RowKit Go.BW

theorem index31_any {w : World} {B n d : Nat} {L : Option Addr} {ms : List Gp} (hr : Rd w B 3 L n (fl gc ms)) (hB : B ≤ w.heap.size) (hn : n ≤ 1000000) (c1 : Value) (p : Gp → Bool)
    (HF : ∀ m ∈ ms, ∀ w', Nw w w' → Calls Try.prog 31 #[gv m, c1] w' (Ret (.bool (p m)) w')) :
    Calls Try.prog 30 #[.slice L n d, .func (.func 31) #[] #[c1]] w (IdxPost (idxZ p ms) w) := by
  have HF' := Lib.hid HF
  clear HF
  go_enter Try.func30, Try.ntmps30
  go_wp2_with fail
  go_loopw [8] (fun i wr => ∃ k : Nat, k ≤ n ∧ i = .int .i64 k ∧ Hid ((ms.take k).any p = false) ∧ Nw w wr) (fun i _ => n - (intOf i).toNat)
  case atStart => exact ⟨0, Nat.zero_le _, rfl, Lib.hid rfl, Nw.refl _⟩
  case round =>
    obtain ⟨k, hk, rfl, hno, hnw⟩ := hrel
    by_cases hlt : k < n
    · obtain ⟨hln, b', off, x, rfl, _, hx, hc⟩ := (hr.nw hnw hB).atL gc_len (by decide) hlt
      have hlt' : (k : Int) < (n : Int) := by omega
      have HC := Lib.hid hc
      have HX := Lib.hid hx
      have HT := HF'.out x (List.mem_of_getElem? hx) wr hnw
      obtain ⟨q, hq⟩ : ∃ q, p x = q := ⟨_, rfl⟩
      rw [hq] at HT
      have HQ := Lib.hid hq
      have HT' := Lib.hid (show Calls Try.prog 31 #[.agg (gc x).toArray, c1] wr (fun e w' => e = .returned (.bool q) ∧ Nw wr w') from HT)
      clear hc hx hq HT
      rcases q with _ | _
      · go_wp2_with (first | ((with_reducible refine HT'.out.mono ?_); rintro e w2 ⟨rfl, n2⟩) | refine wpList_load_agg 37 _ rfl rfl rfl (gc x) HC.out _ Try.underlying37 rfl (by rw [gc_len]; kernel_rfl) ?_)
        go_roundw
        case rel => exact ⟨k + 1, by omega, by go_num, Lib.hid (by rw [any_snoc hno.out HX.out]; exact HQ.out), gb_trans hnw n2⟩
        case measure => simp only [intOf]; omega
      · go_wp2_with (first | ((with_reducible refine HT'.out.mono ?_); rintro e w2 ⟨rfl, n2⟩) | refine wpList_load_agg 37 _ rfl rfl rfl (gc x) HC.out _ Try.underlying37 rfl (by rw [gc_len]; kernel_rfl) ?_)
        go_ret
        exact ⟨by rw [idxZ_at hno.out HX.out HQ.out]; rfl, gb_trans hnw n2⟩
    · have hk' : k = n := by omega
      subst hk'
      have hf : ms.any p = false := by
        have h1 := hno.out
        rwa [List.take_of_length_le (by have := hr.lenL gc_len (by decide); omega)] at h1
      have H := Lib.hid (idxZ_no hf)
      clear hf
      go_wp2
      go_ret
      exact ⟨by rw [H.out]; rfl, hnw⟩

end Go.Proofs.Ytobifmndpkjlmaa

