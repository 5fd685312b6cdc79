/- slices.IndexFunc and ContainsFunc over labels, once for each closure that the program hands them; under a premise on the closure. Printed by gen_idx.py. -/
import Derived.Test.YtkkkhkkjdjnfhaaE
namespace Go.Proofs.Ytkkkhkkjdjnfhaa
open Go.RowKit Go.BW

theorem index25_any {w : World} {B n d : Nat} {L : Option Addr} {ms : List Lb} (hr : Rd w B 5 L n (fl lc ms)) (hB : B ≤ w.heap.size) (hn : n ≤ 1000000) (p : Lb → Bool)
    (HF : ∀ m ∈ ms, ∀ w', Nw w w' → Calls Try.prog 25 #[lv m] w' (Ret (.bool (p m)) w')) :
    Calls Try.prog 33 #[.slice L n d, .func (.func 25) #[] #[]] w (IdxPost (idxZ p ms) w) := by
  have HF' := Lib.hid HF
  clear HF
  go_enter Try.func33, Try.ntmps33
  go_wp2_with fail
  go_loopw [8] (fun i wr => ∃ k : Nat, k ≤ n ∧ i = .int .i64 k ∧ Hid ((ms.take k).any p = false) ∧ Nw w wr) (fun i _ => n - (intOf i).toNat)
  case atStart => exact ⟨0, Nat.zero_le _, rfl, Lib.hid rfl, Nw.refl _⟩
  case round =>
    obtain ⟨k, hk, rfl, hno, hnw⟩ := hrel
    by_cases hlt : k < n
    · obtain ⟨hln, b', off, x, rfl, _, hx, hc⟩ := (hr.nw hnw hB).atL lc_len (by decide) hlt
      have hlt' : (k : Int) < (n : Int) := by omega
      have HC := Lib.hid hc
      have HX := Lib.hid hx
      have HT := HF'.out x (List.mem_of_getElem? hx) wr hnw
      obtain ⟨q, hq⟩ : ∃ q, p x = q := ⟨_, rfl⟩
      rw [hq] at HT
      have HQ := Lib.hid hq
      have HT' := Lib.hid (show Calls Try.prog 25 #[.agg (lc x).toArray] wr (fun e w' => e = .returned (.bool q) ∧ Nw wr w') from HT)
      clear hc hx hq HT
      rcases q with _ | _
      · go_wp2_with (first | ((with_reducible refine HT'.out.mono ?_); rintro e w2 ⟨rfl, n2⟩) | refine wpList_load_agg 24 _ rfl rfl rfl (lc x) HC.out _ Try.underlying24 rfl (by rw [lc_len]; kernel_rfl) ?_)
        go_roundw
        case rel => exact ⟨k + 1, by omega, by go_num, Lib.hid (by rw [any_snoc hno.out HX.out]; exact HQ.out), gb_trans hnw n2⟩
        case measure => simp only [intOf]; omega
      · go_wp2_with (first | ((with_reducible refine HT'.out.mono ?_); rintro e w2 ⟨rfl, n2⟩) | refine wpList_load_agg 24 _ rfl rfl rfl (lc x) HC.out _ Try.underlying24 rfl (by rw [lc_len]; kernel_rfl) ?_)
        go_ret
        exact ⟨by rw [idxZ_at hno.out HX.out HQ.out]; rfl, gb_trans hnw n2⟩
    · have hk' : k = n := by omega
      subst hk'
      have hf : ms.any p = false := by
        have h1 := hno.out
        rwa [List.take_of_length_le (by have := hr.lenL lc_len (by decide); omega)] at h1
      have H := Lib.hid (idxZ_no hf)
      clear hf
      go_wp2
      go_ret
      exact ⟨by rw [H.out]; rfl, hnw⟩
theorem has25_any {w : World} {B n d : Nat} {L : Option Addr} {ms : List Lb} (hr : Rd w B 5 L n (fl lc ms)) (hB : B ≤ w.heap.size) (hn : n ≤ 1000000) (p : Lb → Bool)
    (HF : ∀ m ∈ ms, ∀ w', Nw w w' → Calls Try.prog 25 #[lv m] w' (Ret (.bool (p m)) w')) :
    Calls Try.prog 28 #[.slice L n d, .func (.func 25) #[] #[]] w (Ret (.bool (ms.any p)) w) := by
  have HI := Lib.hid (index25_any (d := d) hr hB hn  p HF)
  have hv := idxZ_nn p ms
  unfold IdxPost at HI
  obtain ⟨v, hvv⟩ : ∃ v, idxZ p ms = v := ⟨_, rfl⟩
  rw [hvv] at HI hv
  have HV := Lib.hid hv
  clear hr HF hvv hv
  go_enter Try.func28, Try.ntmps28
  go_wp2_with ((with_reducible refine HI.out.mono ?_); rintro e w2 ⟨rfl, n2⟩)
  go_ret
  exact ⟨by rw [← HV.out]; rfl, n2⟩


theorem index29_any {w : World} {B n d : Nat} {L : Option Addr} {ms : List Lb} (hr : Rd w B 5 L n (fl lc ms)) (hB : B ≤ w.heap.size) (hn : n ≤ 1000000) (c1 : Value) (p : Lb → Bool)
    (HF : ∀ m ∈ ms, ∀ w', Nw w w' → Calls Try.prog 29 #[lv m, c1] w' (Ret (.bool (p m)) w')) :
    Calls Try.prog 33 #[.slice L n d, .func (.func 29) #[] #[c1]] w (IdxPost (idxZ p ms) w) := by
  have HF' := Lib.hid HF
  clear HF
  go_enter Try.func33, Try.ntmps33
  go_wp2_with fail
  go_loopw [8] (fun i wr => ∃ k : Nat, k ≤ n ∧ i = .int .i64 k ∧ Hid ((ms.take k).any p = false) ∧ Nw w wr) (fun i _ => n - (intOf i).toNat)
  case atStart => exact ⟨0, Nat.zero_le _, rfl, Lib.hid rfl, Nw.refl _⟩
  case round =>
    obtain ⟨k, hk, rfl, hno, hnw⟩ := hrel
    by_cases hlt : k < n
    · obtain ⟨hln, b', off, x, rfl, _, hx, hc⟩ := (hr.nw hnw hB).atL lc_len (by decide) hlt
      have hlt' : (k : Int) < (n : Int) := by omega
      have HC := Lib.hid hc
      have HX := Lib.hid hx
      have HT := HF'.out x (List.mem_of_getElem? hx) wr hnw
      obtain ⟨q, hq⟩ : ∃ q, p x = q := ⟨_, rfl⟩
      rw [hq] at HT
      have HQ := Lib.hid hq
      have HT' := Lib.hid (show Calls Try.prog 29 #[.agg (lc x).toArray, c1] wr (fun e w' => e = .returned (.bool q) ∧ Nw wr w') from HT)
      clear hc hx hq HT
      rcases q with _ | _
      · go_wp2_with (first | ((with_reducible refine HT'.out.mono ?_); rintro e w2 ⟨rfl, n2⟩) | refine wpList_load_agg 24 _ rfl rfl rfl (lc x) HC.out _ Try.underlying24 rfl (by rw [lc_len]; kernel_rfl) ?_)
        go_roundw
        case rel => exact ⟨k + 1, by omega, by go_num, Lib.hid (by rw [any_snoc hno.out HX.out]; exact HQ.out), gb_trans hnw n2⟩
        case measure => simp only [intOf]; omega
      · go_wp2_with (first | ((with_reducible refine HT'.out.mono ?_); rintro e w2 ⟨rfl, n2⟩) | refine wpList_load_agg 24 _ rfl rfl rfl (lc x) HC.out _ Try.underlying24 rfl (by rw [lc_len]; kernel_rfl) ?_)
        go_ret
        exact ⟨by rw [idxZ_at hno.out HX.out HQ.out]; rfl, gb_trans hnw n2⟩
    · have hk' : k = n := by omega
      subst hk'
      have hf : ms.any p = false := by
        have h1 := hno.out
        rwa [List.take_of_length_le (by have := hr.lenL lc_len (by decide); omega)] at h1
      have H := Lib.hid (idxZ_no hf)
      clear hf
      go_wp2
      go_ret
      exact ⟨by rw [H.out]; rfl, hnw⟩
theorem has29_any {w : World} {B n d : Nat} {L : Option Addr} {ms : List Lb} (hr : Rd w B 5 L n (fl lc ms)) (hB : B ≤ w.heap.size) (hn : n ≤ 1000000) (c1 : Value) (p : Lb → Bool)
    (HF : ∀ m ∈ ms, ∀ w', Nw w w' → Calls Try.prog 29 #[lv m, c1] w' (Ret (.bool (p m)) w')) :
    Calls Try.prog 28 #[.slice L n d, .func (.func 29) #[] #[c1]] w (Ret (.bool (ms.any p)) w) := by
  have HI := Lib.hid (index29_any (d := d) hr hB hn c1 p HF)
  have hv := idxZ_nn p ms
  unfold IdxPost at HI
  obtain ⟨v, hvv⟩ : ∃ v, idxZ p ms = v := ⟨_, rfl⟩
  rw [hvv] at HI hv
  have HV := Lib.hid hv
  clear hr HF hvv hv
  go_enter Try.func28, Try.ntmps28
  go_wp2_with ((with_reducible refine HI.out.mono ?_); rintro e w2 ⟨rfl, n2⟩)
  go_ret
  exact ⟨by rw [← HV.out]; rfl, n2⟩


theorem index31_any {w : World} {B n d : Nat} {L : Option Addr} {ms : List Lb} (hr : Rd w B 5 L n (fl lc ms)) (hB : B ≤ w.heap.size) (hn : n ≤ 1000000) (c1 c2 : Value) (p : Lb → Bool)
    (HF : ∀ m ∈ ms, ∀ w', Nw w w' → Calls Try.prog 31 #[lv m, c1, c2] w' (Ret (.bool (p m)) w')) :
    Calls Try.prog 33 #[.slice L n d, .func (.func 31) #[] #[c1, c2]] w (IdxPost (idxZ p ms) w) := by
  have HF' := Lib.hid HF
  clear HF
  go_enter Try.func33, Try.ntmps33
  go_wp2_with fail
  go_loopw [8] (fun i wr => ∃ k : Nat, k ≤ n ∧ i = .int .i64 k ∧ Hid ((ms.take k).any p = false) ∧ Nw w wr) (fun i _ => n - (intOf i).toNat)
  case atStart => exact ⟨0, Nat.zero_le _, rfl, Lib.hid rfl, Nw.refl _⟩
  case round =>
    obtain ⟨k, hk, rfl, hno, hnw⟩ := hrel
    by_cases hlt : k < n
    · obtain ⟨hln, b', off, x, rfl, _, hx, hc⟩ := (hr.nw hnw hB).atL lc_len (by decide) hlt
      have hlt' : (k : Int) < (n : Int) := by omega
      have HC := Lib.hid hc
      have HX := Lib.hid hx
      have HT := HF'.out x (List.mem_of_getElem? hx) wr hnw
      obtain ⟨q, hq⟩ : ∃ q, p x = q := ⟨_, rfl⟩
      rw [hq] at HT
      have HQ := Lib.hid hq
      have HT' := Lib.hid (show Calls Try.prog 31 #[.agg (lc x).toArray, c1, c2] wr (fun e w' => e = .returned (.bool q) ∧ Nw wr w') from HT)
      clear hc hx hq HT
      rcases q with _ | _
      · go_wp2_with (first | ((with_reducible refine HT'.out.mono ?_); rintro e w2 ⟨rfl, n2⟩) | refine wpList_load_agg 24 _ rfl rfl rfl (lc x) HC.out _ Try.underlying24 rfl (by rw [lc_len]; kernel_rfl) ?_)
        go_roundw
        case rel => exact ⟨k + 1, by omega, by go_num, Lib.hid (by rw [any_snoc hno.out HX.out]; exact HQ.out), gb_trans hnw n2⟩
        case measure => simp only [intOf]; omega
      · go_wp2_with (first | ((with_reducible refine HT'.out.mono ?_); rintro e w2 ⟨rfl, n2⟩) | refine wpList_load_agg 24 _ rfl rfl rfl (lc x) HC.out _ Try.underlying24 rfl (by rw [lc_len]; kernel_rfl) ?_)
        go_ret
        exact ⟨by rw [idxZ_at hno.out HX.out HQ.out]; rfl, gb_trans hnw n2⟩
    · have hk' : k = n := by omega
      subst hk'
      have hf : ms.any p = false := by
        have h1 := hno.out
        rwa [List.take_of_length_le (by have := hr.lenL lc_len (by decide); omega)] at h1
      have H := Lib.hid (idxZ_no hf)
      clear hf
      go_wp2
      go_ret
      exact ⟨by rw [H.out]; rfl, hnw⟩
theorem has31_any {w : World} {B n d : Nat} {L : Option Addr} {ms : List Lb} (hr : Rd w B 5 L n (fl lc ms)) (hB : B ≤ w.heap.size) (hn : n ≤ 1000000) (c1 c2 : Value) (p : Lb → Bool)
    (HF : ∀ m ∈ ms, ∀ w', Nw w w' → Calls Try.prog 31 #[lv m, c1, c2] w' (Ret (.bool (p m)) w')) :
    Calls Try.prog 28 #[.slice L n d, .func (.func 31) #[] #[c1, c2]] w (Ret (.bool (ms.any p)) w) := by
  have HI := Lib.hid (index31_any (d := d) hr hB hn c1 c2 p HF)
  have hv := idxZ_nn p ms
  unfold IdxPost at HI
  obtain ⟨v, hvv⟩ : ∃ v, idxZ p ms = v := ⟨_, rfl⟩
  rw [hvv] at HI hv
  have HV := Lib.hid hv
  clear hr HF hvv hv
  go_enter Try.func28, Try.ntmps28
  go_wp2_with ((with_reducible refine HI.out.mono ?_); rintro e w2 ⟨rfl, n2⟩)
  go_ret
  exact ⟨by rw [← HV.out]; rfl, n2⟩

end Go.Proofs.Ytkkkhkkjdjnfhaa

