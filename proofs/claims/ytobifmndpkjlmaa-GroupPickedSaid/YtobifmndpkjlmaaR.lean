/- group.byRoom: the disks that have room, and that may be, in their order; once for each closure that the program hands it. Printed by gen_room.py. -/
import Derived.Test.YtobifmndpkjlmaaQ
namespace Go.Proofs.Ytobifmndpkjlmaa
open Go.RowKit Go.BW

def RoomPost (rs : List Int) (p : Nat → Bool) (w : World) (e : Ending) (w' : World) : Prop :=
  ∃ A' n' c' l, e = .returned (.slice A' n' c') ∧ Own w' w.heap.size 3 1 A' n' c' (l.map nv) ∧ Ranked rs (fun d => p d = true) l ∧ Nw w w'

set_option maxHeartbeats 8000000 in
theorem byroom27_any {K : Nat} (hK : StableOK K) {w : World} {B n c : Nat} {A : Option Addr} {rs : List Int} (hr : Rd w B 1 A n (rs.map iv)) (hB : B ≤ w.heap.size) (hn : n ≤ K) (hm : n ≤ 1000000) (c1 : Value) (p : Nat → Bool)
    (HF : ∀ d, d < n → ∀ w', Nw w w' → Calls Try.prog 27 #[.int .i64 (d : Nat), c1] w' (Ret (.bool (p d)) w')) :
    Calls Try.prog 26 #[.slice A n c, .func (.func 27) #[] #[c1]] w (RoomPost rs p w) := by
  have hlen : rs.length = n := by have := hr.1; simpa using this
  have hbox := Obj1.new w 22 #[.slice A n c]
  have hn0 := World.grownBy_alloc w (.cells #[.slice A n c] 22) none
  have HF' := Lib.hid HF
  have HKK := Lib.hid hK
  have HL := Lib.hid hlen
  go_enter Try.func26, Try.ntmps26
  go_wp2_with fail
  have HBX := Lib.hid hbox
  have N0 := Lib.hid hn0
  obtain ⟨W, hW⟩ : ∃ W, w.alloc (.cells #[.slice A n c] 22) = W := ⟨_, rfl⟩
  rw [hW] at HBX N0 ⊢
  obtain ⟨y, hy⟩ : ∃ y, w.heap.size = y := ⟨_, rfl⟩
  rw [hy] at HBX ⊢
  have HY := Lib.hid hy
  have HYW := Lib.hid HBX.out.lt
  have HR := Lib.hid (hr.nw N0.out hB)
  have HBW := Lib.hid (Nat.le_trans hB N0.out.size)
  have HBY := Lib.hid (show B ≤ y by rw [← hy]; exact hB)
  clear hbox hn0 hW hy HF hK hlen hr hB
  go_loopw [5, 10] (fun s v wr => ∃ (k : Nat) (A' : Option Addr) (n' c' : Nat) (L : List Nat), v = .int .i64 k ∧ s = .slice A' n' c' ∧ k ≤ n ∧ n' ≤ k ∧ Hid (Own wr W.heap.size 3 1 A' n' c' (L.map nv)) ∧ Hid (L.Pairwise (· < ·)) ∧ Hid (∀ d, d ∈ L ↔ d < k ∧ 0 < rs.getD d 0 ∧ p d = true) ∧ Nw W wr) (fun _ v _ => n - (intOf v).toNat)
  case atStart => exact ⟨0, none, 0, 0, [], rfl, rfl, Nat.zero_le _, Nat.le_refl _, Lib.hid Own.nil, Lib.hid List.Pairwise.nil, Lib.hid (fun d => by simp), Nw.refl _⟩
  case round =>
    obtain ⟨k, A', n', c', L, rfl, rfl, hk, hnk, ho, hup, hmem, hnw⟩ := hrel
    by_cases hlt : k < n
    · have hltz : (k : Int) < (n : Int) := by omega
      obtain ⟨b, off, hA, hc⟩ := atD (HR.out.nw hnw HBW.out) hlt
      subst hA
      obtain ⟨x, hx⟩ : ∃ x, rs.getD k 0 = x := ⟨_, rfl⟩
      rw [hx] at hc
      have HX := Lib.hid hx
      clear hx
      rcases (show x ≤ 0 ∨ 0 < x by omega) with h0 | h0
      · have d0 : decide ((0 : Int) < x) = false := decide_eq_false (by omega)
        have HM := Lib.hid (show ∀ d, d ∈ L ↔ d < k + 1 ∧ 0 < rs.getD d 0 ∧ p d = true from fun d => by
          rw [hmem.out d]
          constructor
          · rintro ⟨h1, h2⟩; exact ⟨by omega, h2⟩
          · rintro ⟨h1, h2, h3⟩
            refine ⟨?_, h2, h3⟩
            by_cases hdk : d = k
            · subst hdk; rw [HX.out] at h2; omega
            · omega)
        clear hmem
        go_wp2_with fail
        go_roundw
        case rel => exact ⟨k + 1, A', n', c', L, by go_num, rfl, by omega, by omega, ho, hup, HM, hnw⟩
        case measure => simp only [intOf]; omega
      · have d0 : decide ((0 : Int) < x) = true := decide_eq_true h0
        have HC := Lib.hid (HF'.out k hlt wr (gb_trans N0.out hnw))
        obtain ⟨q, hq⟩ : ∃ q, p k = q := ⟨_, rfl⟩
        rw [hq] at HC
        have HQ := Lib.hid hq
        unfold Ret at HC
        clear hq
        rcases q with _ | _
        · have HM := Lib.hid (show ∀ d, d ∈ L ↔ d < k + 1 ∧ 0 < rs.getD d 0 ∧ p d = true from fun d => by
            rw [hmem.out d]
            constructor
            · rintro ⟨h1, h2⟩; exact ⟨by omega, h2⟩
            · rintro ⟨h1, h2, h3⟩
              refine ⟨?_, h2, h3⟩
              by_cases hdk : d = k
              · subst hdk; rw [HQ.out] at h3; cases h3
              · omega)
          clear hmem
          go_wp2_with ((with_reducible refine HC.out.mono ?_); rintro e w2 ⟨rfl, n2⟩)
          go_roundw
          case rel => exact ⟨k + 1, A', n', c', L, by go_num, rfl, by omega, by omega, Lib.hid (ho.out.nw n2), hup, HM, gb_trans hnw n2⟩
          case measure => simp only [intOf]; omega
        · have HM := Lib.hid (show ∀ d, d ∈ L ++ [k] ↔ d < k + 1 ∧ 0 < rs.getD d 0 ∧ p d = true from fun d => by
            rw [List.mem_append, hmem.out d, List.mem_singleton]
            constructor
            · rintro (⟨h1, h2⟩ | h1)
              · exact ⟨by omega, h2⟩
              · subst h1; exact ⟨by omega, by rw [HX.out]; exact h0, HQ.out⟩
            · rintro ⟨h1, h2, h3⟩
              by_cases hdk : d = k
              · exact .inr hdk
              · exact .inl ⟨by omega, h2, h3⟩)
          have HU := Lib.hid (show (L ++ [k]).Pairwise (· < ·) from by
            rw [List.pairwise_append]
            refine ⟨hup.out, List.pairwise_singleton _ _, fun a ha b hb => ?_⟩
            rw [List.mem_singleton] at hb; subst hb
            exact ((hmem.out a).1 ha).1)
          have hsm : (n' + 1) * 8 ≤ 140737488355328 ∧ n' + 1 ≤ maxLen := by unfold maxLen; omega
          have HSZ := Lib.hid hnw.size
          clear hmem
          go_wp2_with (first
            | (at_builtin; (with_reducible refine wpList_app1_own T22 _ _ (by with_unfolding_all exact rfl) (by with_unfolding_all exact rfl) (by with_unfolding_all exact rfl) (by with_unfolding_all exact rfl) (ho.out.nw n2) (by with_unfolding_all exact rfl) hsm HS2.out ?_); intro A'' c'' w3 h2 h3 h4)
            | ((with_reducible refine HC.out.mono ?_); rintro e w2 ⟨rfl, n2⟩; have HS2 := Lib.hid (Nat.le_trans HSZ.out n2.size)))
          go_roundw
          case rel => exact ⟨k + 1, A'', n' + 1, c'', L ++ [k], by go_num, rfl, by omega, by omega, Lib.hid (by rw [List.map_append]; exact h2), HU, HM, nw_of_gb (gb_trans hnw n2) h3 (fun g hg => ho.out.blk g hg)⟩
          case measure => simp only [intOf]; omega
    · have hkn : k = n := by omega
      have hmem' := hmem.out
      rw [hkn] at hmem'
      have HM := Lib.hid hmem'
      clear hkn hmem hmem'
      rcases Nat.eq_zero_or_pos n' with hz | hz
      · subst hz
        have HS := Lib.hid (sortst_zero A' c' (.func (.func 40) #[] #[.pointer (some ⟨y, 0, none⟩)]) wr)
        have HLN := Lib.hid (show L = [] from by have := ho.out.len; simpa using this)
        go_wp2_with ((with_reducible refine HS.out.mono ?_); rintro e w2 ⟨rfl, rfl⟩)
        go_ret
        refine ⟨A', 0, c', L, rfl, ho.out.more (by rw [HY.out]; exact Nat.le_of_lt HYW.out), ⟨by rw [HLN.out]; exact List.Pairwise.nil, fun d => by rw [HM.out d, HL.out]⟩, gb_trans N0.out hnw⟩
      · obtain ⟨g, hA', hgW⟩ := ho.out.some_ hz
        subst hA'
        have HCm := Lib.hid (show Cmp wr g y A n c rs from ⟨(HBX.out.nw hnw).cell 0, by have := HYW.out; omega, (HR.out.nw hnw HBW.out).more (by have := HYW.out; have := HBY.out; omega), by omega, HL.out⟩)
        have HS := Lib.hid (sortst_any HKK.out ho.out HCm.out hz (by omega) (fun x hx => ((HM.out x).1 hx).1) hup.out)
        unfold StPost at HS
        go_wp2_with ((with_reducible refine HS.out.mono ?_); rintro e w2 ⟨rfl, M, hp, hw, ho2, hg2⟩; have HP := Lib.hid hp; have HW2 := Lib.hid hw; have HO2 := Lib.hid ho2; have HG2 := Lib.hid hg2; clear hp hw ho2 hg2)
        go_ret
        refine ⟨some ⟨g, 0, none⟩, n', c', M, rfl, HO2.out.more (by rw [HY.out]; exact Nat.le_of_lt HYW.out), ⟨HW2.out, fun d => by rw [HP.out.mem_iff, HM.out d, HL.out]⟩, gb_trans N0.out (nw_of_gb hnw HG2.out (fun z hz => by injection hz with hz; omega))⟩


set_option maxHeartbeats 8000000 in
theorem byroom34_any {K : Nat} (hK : StableOK K) {w : World} {B n c : Nat} {A : Option Addr} {rs : List Int} (hr : Rd w B 1 A n (rs.map iv)) (hB : B ≤ w.heap.size) (hn : n ≤ K) (hm : n ≤ 1000000) (c1 c2 : Value) (p : Nat → Bool)
    (HF : ∀ d, d < n → ∀ w', Nw w w' → Calls Try.prog 34 #[.int .i64 (d : Nat), c1, c2] w' (Ret (.bool (p d)) w')) :
    Calls Try.prog 26 #[.slice A n c, .func (.func 34) #[] #[c1, c2]] w (RoomPost rs p w) := by
  have hlen : rs.length = n := by have := hr.1; simpa using this
  have hbox := Obj1.new w 22 #[.slice A n c]
  have hn0 := World.grownBy_alloc w (.cells #[.slice A n c] 22) none
  have HF' := Lib.hid HF
  have HKK := Lib.hid hK
  have HL := Lib.hid hlen
  go_enter Try.func26, Try.ntmps26
  go_wp2_with fail
  have HBX := Lib.hid hbox
  have N0 := Lib.hid hn0
  obtain ⟨W, hW⟩ : ∃ W, w.alloc (.cells #[.slice A n c] 22) = W := ⟨_, rfl⟩
  rw [hW] at HBX N0 ⊢
  obtain ⟨y, hy⟩ : ∃ y, w.heap.size = y := ⟨_, rfl⟩
  rw [hy] at HBX ⊢
  have HY := Lib.hid hy
  have HYW := Lib.hid HBX.out.lt
  have HR := Lib.hid (hr.nw N0.out hB)
  have HBW := Lib.hid (Nat.le_trans hB N0.out.size)
  have HBY := Lib.hid (show B ≤ y by rw [← hy]; exact hB)
  clear hbox hn0 hW hy HF hK hlen hr hB
  go_loopw [5, 10] (fun s v wr => ∃ (k : Nat) (A' : Option Addr) (n' c' : Nat) (L : List Nat), v = .int .i64 k ∧ s = .slice A' n' c' ∧ k ≤ n ∧ n' ≤ k ∧ Hid (Own wr W.heap.size 3 1 A' n' c' (L.map nv)) ∧ Hid (L.Pairwise (· < ·)) ∧ Hid (∀ d, d ∈ L ↔ d < k ∧ 0 < rs.getD d 0 ∧ p d = true) ∧ Nw W wr) (fun _ v _ => n - (intOf v).toNat)
  case atStart => exact ⟨0, none, 0, 0, [], rfl, rfl, Nat.zero_le _, Nat.le_refl _, Lib.hid Own.nil, Lib.hid List.Pairwise.nil, Lib.hid (fun d => by simp), Nw.refl _⟩
  case round =>
    obtain ⟨k, A', n', c', L, rfl, rfl, hk, hnk, ho, hup, hmem, hnw⟩ := hrel
    by_cases hlt : k < n
    · have hltz : (k : Int) < (n : Int) := by omega
      obtain ⟨b, off, hA, hc⟩ := atD (HR.out.nw hnw HBW.out) hlt
      subst hA
      obtain ⟨x, hx⟩ : ∃ x, rs.getD k 0 = x := ⟨_, rfl⟩
      rw [hx] at hc
      have HX := Lib.hid hx
      clear hx
      rcases (show x ≤ 0 ∨ 0 < x by omega) with h0 | h0
      · have d0 : decide ((0 : Int) < x) = false := decide_eq_false (by omega)
        have HM := Lib.hid (show ∀ d, d ∈ L ↔ d < k + 1 ∧ 0 < rs.getD d 0 ∧ p d = true from fun d => by
          rw [hmem.out d]
          constructor
          · rintro ⟨h1, h2⟩; exact ⟨by omega, h2⟩
          · rintro ⟨h1, h2, h3⟩
            refine ⟨?_, h2, h3⟩
            by_cases hdk : d = k
            · subst hdk; rw [HX.out] at h2; omega
            · omega)
        clear hmem
        go_wp2_with fail
        go_roundw
        case rel => exact ⟨k + 1, A', n', c', L, by go_num, rfl, by omega, by omega, ho, hup, HM, hnw⟩
        case measure => simp only [intOf]; omega
      · have d0 : decide ((0 : Int) < x) = true := decide_eq_true h0
        have HC := Lib.hid (HF'.out k hlt wr (gb_trans N0.out hnw))
        obtain ⟨q, hq⟩ : ∃ q, p k = q := ⟨_, rfl⟩
        rw [hq] at HC
        have HQ := Lib.hid hq
        unfold Ret at HC
        clear hq
        rcases q with _ | _
        · have HM := Lib.hid (show ∀ d, d ∈ L ↔ d < k + 1 ∧ 0 < rs.getD d 0 ∧ p d = true from fun d => by
            rw [hmem.out d]
            constructor
            · rintro ⟨h1, h2⟩; exact ⟨by omega, h2⟩
            · rintro ⟨h1, h2, h3⟩
              refine ⟨?_, h2, h3⟩
              by_cases hdk : d = k
              · subst hdk; rw [HQ.out] at h3; cases h3
              · omega)
          clear hmem
          go_wp2_with ((with_reducible refine HC.out.mono ?_); rintro e w2 ⟨rfl, n2⟩)
          go_roundw
          case rel => exact ⟨k + 1, A', n', c', L, by go_num, rfl, by omega, by omega, Lib.hid (ho.out.nw n2), hup, HM, gb_trans hnw n2⟩
          case measure => simp only [intOf]; omega
        · have HM := Lib.hid (show ∀ d, d ∈ L ++ [k] ↔ d < k + 1 ∧ 0 < rs.getD d 0 ∧ p d = true from fun d => by
            rw [List.mem_append, hmem.out d, List.mem_singleton]
            constructor
            · rintro (⟨h1, h2⟩ | h1)
              · exact ⟨by omega, h2⟩
              · subst h1; exact ⟨by omega, by rw [HX.out]; exact h0, HQ.out⟩
            · rintro ⟨h1, h2, h3⟩
              by_cases hdk : d = k
              · exact .inr hdk
              · exact .inl ⟨by omega, h2, h3⟩)
          have HU := Lib.hid (show (L ++ [k]).Pairwise (· < ·) from by
            rw [List.pairwise_append]
            refine ⟨hup.out, List.pairwise_singleton _ _, fun a ha b hb => ?_⟩
            rw [List.mem_singleton] at hb; subst hb
            exact ((hmem.out a).1 ha).1)
          have hsm : (n' + 1) * 8 ≤ 140737488355328 ∧ n' + 1 ≤ maxLen := by unfold maxLen; omega
          have HSZ := Lib.hid hnw.size
          clear hmem
          go_wp2_with (first
            | (at_builtin; (with_reducible refine wpList_app1_own T22 _ _ (by with_unfolding_all exact rfl) (by with_unfolding_all exact rfl) (by with_unfolding_all exact rfl) (by with_unfolding_all exact rfl) (ho.out.nw n2) (by with_unfolding_all exact rfl) hsm HS2.out ?_); intro A'' c'' w3 h2 h3 h4)
            | ((with_reducible refine HC.out.mono ?_); rintro e w2 ⟨rfl, n2⟩; have HS2 := Lib.hid (Nat.le_trans HSZ.out n2.size)))
          go_roundw
          case rel => exact ⟨k + 1, A'', n' + 1, c'', L ++ [k], by go_num, rfl, by omega, by omega, Lib.hid (by rw [List.map_append]; exact h2), HU, HM, nw_of_gb (gb_trans hnw n2) h3 (fun g hg => ho.out.blk g hg)⟩
          case measure => simp only [intOf]; omega
    · have hkn : k = n := by omega
      have hmem' := hmem.out
      rw [hkn] at hmem'
      have HM := Lib.hid hmem'
      clear hkn hmem hmem'
      rcases Nat.eq_zero_or_pos n' with hz | hz
      · subst hz
        have HS := Lib.hid (sortst_zero A' c' (.func (.func 40) #[] #[.pointer (some ⟨y, 0, none⟩)]) wr)
        have HLN := Lib.hid (show L = [] from by have := ho.out.len; simpa using this)
        go_wp2_with ((with_reducible refine HS.out.mono ?_); rintro e w2 ⟨rfl, rfl⟩)
        go_ret
        refine ⟨A', 0, c', L, rfl, ho.out.more (by rw [HY.out]; exact Nat.le_of_lt HYW.out), ⟨by rw [HLN.out]; exact List.Pairwise.nil, fun d => by rw [HM.out d, HL.out]⟩, gb_trans N0.out hnw⟩
      · obtain ⟨g, hA', hgW⟩ := ho.out.some_ hz
        subst hA'
        have HCm := Lib.hid (show Cmp wr g y A n c rs from ⟨(HBX.out.nw hnw).cell 0, by have := HYW.out; omega, (HR.out.nw hnw HBW.out).more (by have := HYW.out; have := HBY.out; omega), by omega, HL.out⟩)
        have HS := Lib.hid (sortst_any HKK.out ho.out HCm.out hz (by omega) (fun x hx => ((HM.out x).1 hx).1) hup.out)
        unfold StPost at HS
        go_wp2_with ((with_reducible refine HS.out.mono ?_); rintro e w2 ⟨rfl, M, hp, hw, ho2, hg2⟩; have HP := Lib.hid hp; have HW2 := Lib.hid hw; have HO2 := Lib.hid ho2; have HG2 := Lib.hid hg2; clear hp hw ho2 hg2)
        go_ret
        refine ⟨some ⟨g, 0, none⟩, n', c', M, rfl, HO2.out.more (by rw [HY.out]; exact Nat.le_of_lt HYW.out), ⟨HW2.out, fun d => by rw [HP.out.mem_iff, HM.out d, HL.out]⟩, gb_trans N0.out (nw_of_gb hnw HG2.out (fun z hz => by injection hz with hz; omega))⟩

end Go.Proofs.Ytobifmndpkjlmaa

