/- group.AllSafe and the document's; the statements' numbers and small. -/
import Derived.Test.YtobifmndpkjlmaaK
namespace Go.Proofs.Ytobifmndpkjlmaa
open Go.RowKit Go.BW

set_option maxHeartbeats 1000000 in
theorem allsafe_any {w : World} {B n c m c2 : Nat} {A A2 : Option Addr} {rs : List Int} {gs : List Gp} (hg : GsR w B A2 m gs) (hr : Rd w B 1 A n (rs.map iv)) (hB : B ≤ w.heap.size) (hn : n ≤ 1000000) (hm : m ≤ 1000000)
    (hM : ∀ r ∈ rs, r ≤ 1000000) : Calls Try.prog 22 #[.slice A2 m c2, .slice A n c] w (Ret (.bool (allB gs rs)) w) := by
  have hlen : rs.length = n := by have := hr.1; simpa using this
  have HS := Lib.hid (fun (w' : World) (hw : Nw w w') (d : Nat) => safe_hall (c := c) (c2 := c2) (hg.nw hw hB) (hr.nw hw hB) (Nat.le_trans hB hw.size) hn hm hM (d : Int))
  have HL := Lib.hid hlen
  unfold Ret at HS
  clear hg hr hlen hM
  go_enter Try.func22, Try.ntmps22
  go_wp2_with fail
  go_loopw [8] (fun v wr => ∃ k : Nat, k ≤ n ∧ v = .int .i64 k ∧ Hid (∀ d : Nat, d < k → hallB gs rs (d : Int) = true) ∧ Nw w wr) (fun v _ => n - (intOf v).toNat)
  case atStart => exact ⟨0, Nat.zero_le _, rfl, Lib.hid (fun d hd => absurd hd (by omega)), Nw.refl _⟩
  case round =>
    obtain ⟨k, hk, rfl, hall, hnw⟩ := hrel
    by_cases hlt : k < n
    · have hltz : (k : Int) < (n : Int) := by omega
      have HC := Lib.hid (HS.out wr hnw k)
      obtain ⟨q, hq⟩ : ∃ q, hallB gs rs (k : Int) = q := ⟨_, rfl⟩
      rw [hq] at HC
      have HQ := Lib.hid hq
      clear hq
      rcases q with _ | _
      · have HF := Lib.hid (allB_no (by rw [HL.out]; exact hlt) HQ.out)
        go_wp2_with ((with_reducible refine HC.out.mono ?_); rintro e w2 ⟨rfl, n2⟩)
        go_ret
        exact ⟨by rw [HF.out]; rfl, gb_trans hnw n2⟩
      · go_wp2_with ((with_reducible refine HC.out.mono ?_); rintro e w2 ⟨rfl, n2⟩)
        go_roundw
        case rel => exact ⟨k + 1, by omega, by go_num, Lib.hid (fun d hd => by
          by_cases hdk : d = k
          · subst hdk; exact HQ.out
          · exact hall.out d (by omega)), gb_trans hnw n2⟩
        case measure => simp only [intOf]; omega
    · have HF := Lib.hid (show allB gs rs = true from allB_yes fun d hd => hall.out d (by rw [HL.out] at hd; omega))
      go_wp2
      go_ret
      exact ⟨by rw [HF.out]; rfl, hnw⟩
set_option maxHeartbeats 1000000 in
theorem rallsafe_any {w : World} {B n c m c2 : Nat} {A A2 : Option Addr} {rs : List Int} {gs : List Gp} (hg : GsR w B A2 m gs) (hr : Rd w B 1 A n (rs.map iv)) (hB : B ≤ w.heap.size) (h8 : n ≤ 8) (hm : m ≤ 1000000)
    (hM : ∀ r ∈ rs, r ≤ ((1000000 : Nat) : Int)) : Calls Try.prog 23 #[.slice A2 m c2, .slice A n c] w (Ret (.bool (allB gs rs)) w) := by
  have hlen : rs.length = n := by have := hr.1; simpa using this
  have HS := Lib.hid (fun (w' : World) (hw : Nw w w') (d : Nat) => rsafe_any (c := c) (c2 := c2) (hg.nw hw hB) (hr.nw hw hB) (Nat.le_trans hB hw.size) h8 hm hM (d : Int))
  have HL := Lib.hid hlen
  unfold Ret at HS
  clear hg hr hlen hM
  go_enter Try.func23, Try.ntmps23
  go_wp2_with fail
  go_loopw [5] (fun v wr => ∃ k : Nat, k ≤ n ∧ v = .int .i64 k ∧ Hid (∀ d : Nat, d < k → hallB gs rs (d : Int) = true) ∧ Nw w wr) (fun v _ => n - (intOf v).toNat)
  case atStart => exact ⟨0, Nat.zero_le _, rfl, Lib.hid (fun d hd => absurd hd (by omega)), Nw.refl _⟩
  case round =>
    obtain ⟨k, hk, rfl, hall, hnw⟩ := hrel
    by_cases hlt : k < n
    · have hltz : (k : Int) < (n : Int) := by omega
      have HC := Lib.hid (HS.out wr hnw k)
      obtain ⟨q, hq⟩ : ∃ q, hallB gs rs (k : Int) = q := ⟨_, rfl⟩
      rw [hq] at HC
      have HQ := Lib.hid hq
      clear hq
      rcases q with _ | _
      · have HF := Lib.hid (allB_no (by rw [HL.out]; exact hlt) HQ.out)
        go_wp2_with ((with_reducible refine HC.out.mono ?_); rintro e w2 ⟨rfl, n2⟩)
        go_ret
        exact ⟨by rw [HF.out]; rfl, gb_trans hnw n2⟩
      · go_wp2_with ((with_reducible refine HC.out.mono ?_); rintro e w2 ⟨rfl, n2⟩)
        go_roundw
        case rel => exact ⟨k + 1, by omega, by go_num, Lib.hid (fun d hd => by
          by_cases hdk : d = k
          · subst hdk; exact HQ.out
          · exact hall.out d (by omega)), gb_trans hnw n2⟩
        case measure => simp only [intOf]; omega
    · have HF := Lib.hid (show allB gs rs = true from allB_yes fun d hd => hall.out d (by rw [HL.out] at hd; omega))
      go_wp2
      go_ret
      exact ⟨by rw [HF.out]; rfl, hnw⟩
def numB (a b : List Int) : Bool := decide (a = b)
theorem numB_iff {a b : List Int} : numB a b = true ↔ a = b := by unfold numB; simp
set_option maxHeartbeats 1000000 in
theorem numbers_any {w : World} {B B' n n' c c' : Nat} {A A' : Option Addr} {xs ys : List Int} (hx : Rd w B 1 A n (xs.map iv)) (hy : Rd w B' 1 A' n' (ys.map iv)) (hs : n ≤ 9223372036854775807) :
    Calls Try.prog 13 #[.slice A n c, .slice A' n' c'] w (Ret (.bool (numB xs ys)) w) := by
  have hlx : xs.length = n := by have := hx.1; simpa using this
  have hly : ys.length = n' := by have := hy.1; simpa using this
  have HX := Lib.hid hx; have HY := Lib.hid hy; have LX := Lib.hid hlx; have LY := Lib.hid hly
  clear hx hy hlx hly
  by_cases hnn : n = n'
  · subst hnn
    go_enter Try.func13, Try.ntmps13
    go_wp2_with fail
    go_loopw [5] (fun i wr => ∃ k : Nat, k ≤ n ∧ i = .int .i64 k ∧ Hid (xs.take k = ys.take k) ∧ ∃ n, wr = w.drewN n) (fun i _ => n - (intOf i).toNat)
    case atStart => exact ⟨0, Nat.zero_le _, rfl, Lib.hid rfl, 0, rfl⟩
    case round =>
      obtain ⟨k, hk, rfl, ht, nd, rfl⟩ := hrel
      by_cases hlt : k < n
      · have hltz : (k : Int) < (n : Int) := by omega
        obtain ⟨b, off, hA, hcu⟩ := atD HX.out hlt
        obtain ⟨b', off', hA', hcu'⟩ := atD HY.out hlt
        subst hA; subst hA'
        obtain ⟨x, hx⟩ : ∃ x, xs.getD k 0 = x := ⟨_, rfl⟩
        obtain ⟨y, hy⟩ : ∃ y, ys.getD k 0 = y := ⟨_, rfl⟩
        rw [hx] at hcu
        rw [hy] at hcu'
        have HX1 := Lib.hid (show xs.take (k + 1) = xs.take k ++ [x] by rw [List.take_succ_eq_append_getElem (by rw [LX.out]; exact hlt), getD_at, hx])
        have HY1 := Lib.hid (show ys.take (k + 1) = ys.take k ++ [y] by rw [List.take_succ_eq_append_getElem (by rw [LY.out]; exact hlt), getD_at, hy])
        clear hx hy
        by_cases he : x = y
        · have hne : ((x : Int) != (y : Int)) = false := by rw [he]; simp
          have He := Lib.hid he; clear he
          go_wp2
          go_quiet (fail)
          go_wp2
          go_roundw
          case rel => exact ⟨k + 1, by omega, by go_num, Lib.hid (by rw [HX1.out, HY1.out, ht.out, He.out]), _, by first | rfl | simp⟩
          case measure => simp only [intOf]; omega
        · have hne : ((x : Int) != (y : Int)) = true := by simpa using he
          have Hno := Lib.hid (show numB xs ys = false by
            unfold numB
            rw [decide_eq_false_iff_not]
            intro e
            apply he
            have h1 := HX1.out
            rw [e, HY1.out] at h1
            have := List.append_inj_right h1 (by simp [LY.out])
            simpa using this.symm)
          clear he
          go_wp2
          go_quiet (fail)
          go_wp2
          go_ret
          exact ⟨by rw [Hno.out]; rfl, gb_drewN (gb_drewN (Nw.refl w) _) _⟩
      · have Hyes := Lib.hid (show numB xs ys = true by
          have h := ht.out
          rw [List.take_of_length_le (by rw [LX.out]; omega), List.take_of_length_le (by rw [LY.out]; omega)] at h
          exact numB_iff.2 h)
        go_wp2
        go_ret
        exact ⟨by rw [Hyes.out]; rfl, gb_drewN (Nw.refl w) _⟩
  · have Hno := Lib.hid (show numB xs ys = false by
      unfold numB
      rw [decide_eq_false_iff_not]
      intro e
      rw [e, LY.out] at LX
      exact hnn LX.out.symm)
    have hne : ((n : Int) != (n' : Int)) = true := by rw [bne_iff_ne]; omega
    go_enter Try.func13, Try.ntmps13
    go_wp2
    go_ret
    exact ⟨by rw [Hno.out]; rfl, Nw.refl w⟩
/-- at most eight rooms, none above a thousand -/
def smallP (rs : List Int) : List Int := (rs.take 8).map fun r => min r 1000
theorem smallP_len (rs : List Int) : (smallP rs).length ≤ 8 := by unfold smallP; simp; omega
theorem smallP_le (rs : List Int) : ∀ r ∈ smallP rs, r ≤ 1000 := by
  intro r hr
  obtain ⟨x, _, rfl⟩ := List.mem_map.1 hr
  omega
set_option maxHeartbeats 1000000 in
theorem small_any {w : World} {B n c : Nat} {A : Option Addr} {rs : List Int} (hr : Rd w B 1 A n (rs.map iv)) (hB : B ≤ w.heap.size) (hs : n ≤ 9223372036854775807) : Calls Try.prog 15 #[.slice A n c] w (RetOwn 3 1 ((smallP rs).map iv) w) := by
  have hlen : rs.length = n := by have := hr.1; simpa using this
  have HR := Lib.hid hr; have HBW := Lib.hid hB; have HL := Lib.hid hlen
  have H0 := Lib.hid (show Own (w.alloc (.cells #[] 3)) w.heap.size 3 1 (some ⟨w.heap.size, 0, none⟩) 0 0 [] from World.ownsRow_made w #[] 0 (Nat.le_refl _) (by simp) (by simp))
  clear hr hB hlen
  go_enter Try.func15, Try.ntmps15
  go_wp2_with fail
  go_loopw [3, 4] (fun s v wr => ∃ (k : Nat) (A' : Option Addr) (c' : Nat), v = .int .i64 k ∧ s = .slice A' k c' ∧ k ≤ 8 ∧ k ≤ n ∧ Hid (Own wr w.heap.size 3 1 A' k c' (((rs.take k).map fun r => min r 1000).map iv)) ∧ Nw w wr) (fun _ v _ => n - (intOf v).toNat)
  case atStart => exact ⟨0, some ⟨w.heap.size, 0, none⟩, 0, rfl, rfl, Nat.zero_le _, Nat.zero_le _, Lib.hid H0.out, World.grownBy_alloc w _ none⟩
  case round =>
    obtain ⟨k, A', c', rfl, rfl, hk, hkn, ho, hnw⟩ := hrel
    by_cases hlt : k < n
    · have hltz : (k : Int) < (n : Int) := by omega
      by_cases h8 : k < 8
      · have h8z : (k : Int) < 8 := by omega
        obtain ⟨b, off, hA, hc⟩ := atD (HR.out.nw hnw HBW.out) hlt
        subst hA
        obtain ⟨x, hx⟩ : ∃ x, rs.getD k 0 = x := ⟨_, rfl⟩
        rw [hx] at hc
        have HX1 := Lib.hid (show ((rs.take (k + 1)).map fun r => min r 1000).map iv = ((rs.take k).map fun r => min r 1000).map iv ++ [.int .i64 (min x 1000)] by
          rw [List.take_succ_eq_append_getElem (by rw [HL.out]; exact hlt), getD_at, hx]; simp [iv])
        have HMI := Lib.hid (show (if (1000 : Int) < x then (1000 : Int) else x) = min x 1000 by split <;> omega)
        have hsz := Nat.le_trans (Nat.le_refl _) hnw.size
        clear hx
        obtain ⟨z, hz⟩ : ∃ z, min x 1000 = z := ⟨_, rfl⟩
        rw [hz] at HX1 HMI
        clear hz
        have hsm : (k + 1) * 8 ≤ 140737488355328 ∧ k + 1 ≤ maxLen := by unfold maxLen; omega
        go_wp2_with (first
          | (at_builtin; (with_reducible refine wpList_app1_own T22 _ _ (by with_unfolding_all exact rfl) (by with_unfolding_all exact rfl) (by with_unfolding_all exact rfl) (by with_unfolding_all exact rfl) ho.out (by with_unfolding_all exact rfl) hsm hsz ?_); intro A'' c'' w3 h2 h3 h4)
          | ((with_reducible refine wpList_min_int _ _ _ (by with_unfolding_all exact rfl) (by with_unfolding_all exact rfl) x 1000 (by with_unfolding_all exact rfl) (by with_unfolding_all exact rfl) HMI.out ?_)))
        go_roundw
        case rel => exact ⟨k + 1, A'', c'', by go_num, rfl, by omega, by omega, Lib.hid (by rw [HX1.out]; exact h2), nw_of_gb hnw h3 (fun g hg => ho.out.blk g hg)⟩
        case measure => simp only [intOf]; omega
      · have hk8 : k = 8 := by omega
        have HF := Lib.hid (show ((rs.take k).map fun r => min r 1000).map iv = (smallP rs).map iv by rw [hk8]; rfl)
        have HO := Lib.hid ho.out
        rw [HF.out] at HO
        have d8 : decide ((k : Int) < 8) = false := decide_eq_false (by omega)
        clear hk8
        go_wp2
        go_ret
        exact ⟨A', k, c', rfl, HO.out, hnw⟩
    · have hkn' : k = n := by omega
      have HF := Lib.hid (show ((rs.take k).map fun r => min r 1000).map iv = (smallP rs).map iv by
        unfold smallP
        rw [List.take_of_length_le (show rs.length ≤ k by rw [HL.out]; omega), List.take_of_length_le (show rs.length ≤ 8 by rw [HL.out]; omega)])
      have HO := Lib.hid ho.out
      rw [HF.out] at HO
      clear hkn'
      go_wp2
      go_ret
      exact ⟨A', k, c', rfl, HO.out, hnw⟩
end Go.Proofs.Ytobifmndpkjlmaa

